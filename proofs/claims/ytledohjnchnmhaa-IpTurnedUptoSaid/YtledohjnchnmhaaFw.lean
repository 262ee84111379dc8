/- Part of the proofs of the laws: lemmas and contracts, no statement of its own. -/
import Derived.Deep.Quiet
import Derived.KernelRfl
import Derived.Lib.BufferWrite
import Derived.WalkKit
set_option linter.unusedVariables false
set_option linter.unusedSimpArgs false
/- The leaves of the symbolic values, as plain Lean values. -/
namespace Go.Adit

structure Ext where
  kind : Int
  body : List UInt8


def liLit (n : Int) : Int := n
def liAdd (k : IntKind) (a b : Int) : Int := k.wrap (a + b)
def liSub (k : IntKind) (a b : Int) : Int := k.wrap (a - b)
def liMul (k : IntKind) (a b : Int) : Int := k.wrap (a * b)
def liQuo (k : IntKind) (a b : Int) : Int := k.wrap (a.tdiv b)
def liRem (a b : Int) : Int := a.tmod b
def liAnd (k : IntKind) (a b : Int) : Int := k.wrap (BitVec.ofInt k.bits a &&& BitVec.ofInt k.bits b).toNat
def liOr (k : IntKind) (a b : Int) : Int := k.wrap (BitVec.ofInt k.bits a ||| BitVec.ofInt k.bits b).toNat
def liXor (k : IntKind) (a b : Int) : Int := k.wrap (BitVec.ofInt k.bits a ^^^ BitVec.ofInt k.bits b).toNat
def liAndNot (k : IntKind) (a b : Int) : Int := k.wrap (BitVec.ofInt k.bits a &&& ~~~BitVec.ofInt k.bits b).toNat
def liShl (k : IntKind) (a b : Int) : Int := k.wrap (a * 2 ^ (min b.toNat k.bits))
def liShr (k : IntKind) (a b : Int) : Int := a.fdiv (2 ^ (min b.toNat k.bits))
def liConv (k : IntKind) (a : Int) : Int := k.wrap a
def liMin (a b : Int) : Int := if b < a then b else a
def liMax (a b : Int) : Int := if b > a then b else a
def liOfByte (y : UInt8) : Int := (y.toNat : Int)
def liLen (s : (List UInt8)) : Int := (s.length : Int)
def liLenX (s : (List Ext)) : Int := (s.length : Int)
def liLenT (s : (List (List UInt8))) : Int := (s.length : Int)
def liLenL (s : (List Int)) : Int := (s.length : Int)
def lyOfInt (n : Int) : UInt8 := UInt8.ofNat n.toNat
def lbLit (b : Bool) : Bool := b
def lbNot (b : Bool) : Bool := !b
def lbEqI (a b : Int) : Bool := a == b
def lbLt (a b : Int) : Bool := decide (a < b)
def lbLe (a b : Int) : Bool := decide (a ≤ b)
def lbEqB (a b : Bool) : Bool := a == b
def lbEqS (a b : (List UInt8)) : Bool := a == b
def lbAnd (a b : Bool) : Bool := a && b
def lbIte (c a b : Bool) : Bool := if c then a else b
def lsLit (l : List UInt8) : (List UInt8) := l
def lsCat (a b : (List UInt8)) : (List UInt8) := a ++ b
def lsSub (s : (List UInt8)) (lo hi : Int) : (List UInt8) := (s.take hi.toNat).drop lo.toNat
def lsAt (s : (List UInt8)) (i : Int) : UInt8 := s.getD i.toNat 0
def lsOf (l : List UInt8) : (List UInt8) := l
def lyIf (c : Bool) (a b : UInt8) : UInt8 := if c then a else b
def lxNil : (List Ext) := []
def lxKind (l : (List Ext)) (i : Int) : Int := (l.getD i.toNat ⟨0, []⟩).kind
def lxBody (l : (List Ext)) (i : Int) : (List UInt8) := (l.getD i.toNat ⟨0, []⟩).body
def ltNil : (List (List UInt8)) := []
def ltLit (l : List (List UInt8)) : (List (List UInt8)) := l
def ltAt (l : (List (List UInt8))) (i : Int) : (List UInt8) := l.getD i.toNat []
def llNil : (List Int) := []
def llAt (l : (List Int)) (i : Int) : Int := l.getD i.toNat 0
/-- the two lengths together are an int -/
def lbRoom (a b : (List UInt8)) : Bool := decide ((a.length : Int) + b.length ≤ 9223372036854775807)
end Go.Adit

/- A symbolic run of loaded code: scalars, structs by value, the call's own blocks. -/
namespace Go.Adit

/-- the name that the first argument's block bears in the callee -/
def lentName : Nat := 1000000

inductive IV where
  | lit (n : Int)
  | sym (x : Int)
inductive BV where
  | lit (b : Bool)
  | sym (x : Bool)
def IV.li : IV → Int
  | .lit n => liLit n
  | .sym x => x
def BV.lb : BV → Bool
  | .lit b => lbLit b
  | .sym x => x

inductive SC where
  | bool (b : BV)
  | int (k : IntKind) (n : IV)
  | byte (y : UInt8)
  | str (s : (List UInt8))
  | exts (l : (List Ext)) (own : Bool)
  | strs (l : (List (List UInt8)))
  | ints (l : (List Int))
  | ptr (n off : Nat)
  | lsl (n off len cap : Nat)
  | eptr (kind : Int) (body : (List UInt8)) (off : Nat)
  | sptr (s : (List UInt8))
  | iptr (n : Int)
  | fn (f : Nat)
  | nilp

inductive D where
  | s (x : SC)
  | agg (l : List SC)
  | tup (l : List D)

structure Blk where
  cells : List SC
  ty : Nat

structure St where
  t : Nat → Option D
  m : Nat → Option Blk

structure Eff where
  val : D
  blk : Option (Nat × Blk)
  req : List Bool

inductive Ty where
  | int (k : IntKind)
  | bool
  | str
  | struct (fs : List (Nat × Nat)) (size : Nat)
  | arr (n e size : Nat)
  | slice (e : Nat)
  | ptr (e : Nat)
  | other

def Ty.isAgg : Ty → Bool
  | .struct .. | .arr .. => true
  | _ => false
def Ty.size : Ty → Nat
  | .struct _ n => n
  | .arr _ _ n => n
  | _ => 1

def Ty.known : Ty → Bool
  | .other => false
  | _ => true

def okTy (t : Ty) : Bool := t.known && !(Nat.beq t.size 0)

def tyAt : List (Nat × Ty) → Nat → Ty
  | [], _ => .other
  | (a, x) :: r, t => match Nat.beq a t with | true => x | false => tyAt r t

structure Cfg where
  tys : List (Nat × Ty)
  call : Nat → List D → Option (D × List Bool)
  n : Nat
  /-- the types of structs and arrays that may be compared -/
  eqs : List Nat
  /-- of each loop: is it laid out round by round; else the slots and the blocks that are known at its head -/
  keep : Nat → Option (List Nat × List Nat)
  /-- the functions that write through their first argument, a pointer to a whole block of so many cells -/
  lent : Nat → Option Nat
  callm : Nat → List SC → List D → Option (D × List SC × List Bool)
  /-- when a call panics with an error, and with which -/
  die : Nat → List SC → List D → Option (BV × Int)
  /-- what must hold of a state where a call panics -/
  hold : St → Bool
  /-- the slots that nothing may write -/
  pin : Nat → Bool

structure Zs where
  ext : Nat
  strs : Nat
  ints : Nat

def Cfg.okDst (c : Cfg) (d : Nat) : Bool := Nat.blt d c.n && !(c.pin d)

def Cfg.ty (c : Cfg) (t : Nat) : Ty := tyAt c.tys t

def zeroS : Ty → Option SC
  | .int k => some (.int k (.lit 0))
  | .bool => some (.bool (.lit false))
  | .str => some (.str (lsLit []))
  | _ => none

def repl : Nat → List SC → List SC
  | 0, _ => []
  | n + 1, l => l ++ repl n l

def zeroCells (c : Cfg) (ext : Nat) (strs : Nat) (ints : Nat) : Nat → Nat → Option (List SC)
  | 0, _ => none
  | fuel + 1, t =>
    match c.ty t with
    | .struct fs _ => fs.foldr (fun f acc => match zeroCells c ext strs ints fuel f.2, acc with | some a, some b => some (a ++ b) | _, _ => none) (some [])
    | .arr n e _ => (zeroCells c ext strs ints fuel e).map (repl n)
    | .slice _ => if Nat.beq t ext then some [.exts lxNil true] else if Nat.beq t strs then some [.strs ltNil] else if Nat.beq t ints then some [.ints llNil] else none
    | x => (zeroS x).map fun s => [s]

def bytesOf (b : ByteArray) : List UInt8 := b.data.toList

def ofValue : Value → Option SC
  | .bool b => some (.bool (.lit b))
  | .int k n => if decide (k.min ≤ n) && decide (n ≤ k.max) then some (.int k (.lit n)) else none
  | .string b => if Nat.ble (bytesOf b).length 65536 then some (.str (lsLit (bytesOf b))) else none
  | .pointer none => some .nilp
  | _ => none

def ev (s : St) : Operand → Option D
  | .tmp t => s.t t
  | .const v => (ofValue v).map .s
  | .func f => some (.s (.fn f))
  | .global _ => none

def asI : SC → Option (IntKind × IV)
  | .int k n => some (k, n)
  | .byte y => some (.u8, .sym (liOfByte y))
  | _ => none

def arithLit (o : BinOp) (k : IntKind) (x y : Int) : Option IV :=
  match o with
  | .add => some (.lit (k.wrap (x + y)))
  | .sub => some (.lit (k.wrap (x - y)))
  | .mul => some (.lit (k.wrap (x * y)))
  | .quo => if y = 0 then none else some (.lit (k.wrap (x.tdiv y)))
  | .rem => if y = 0 then none else some (.lit (x.tmod y))
  | .shl => if y < 0 then none else some (.lit (k.wrap (x * 2 ^ (min y.toNat k.bits))))
  | .shr => if y < 0 then none else some (.lit (x.fdiv (2 ^ (min y.toNat k.bits))))
  | _ => none

def arithSym (o : BinOp) (k : IntKind) (x y : IV) : Option (IV × List Bool) :=
  match o with
  | .add => some (.sym (liAdd k x.li y.li), [])
  | .sub => some (.sym (liSub k x.li y.li), [])
  | .mul => some (.sym (liMul k x.li y.li), [])
  | .quo => some (.sym (liQuo k x.li y.li), [lbNot (lbEqI y.li (liLit 0))])
  | .rem => some (.sym (liRem x.li y.li), [lbNot (lbEqI y.li (liLit 0))])
  | .and => some (.sym (liAnd k x.li y.li), [])
  | .or => some (.sym (liOr k x.li y.li), [])
  | .xor => some (.sym (liXor k x.li y.li), [])
  | .andNot => some (.sym (liAndNot k x.li y.li), [])
  | .shl => some (.sym (liShl k x.li y.li), [lbLe (liLit 0) y.li])
  | .shr => some (.sym (liShr k x.li y.li), [lbLe (liLit 0) y.li])
  | _ => none

/-- y is a written number that is not 0 (or not below 0, of a shift): nothing is asked -/
def arithReq (o : BinOp) (y : IV) (l : List Bool) : List Bool :=
  match o, y with
  | .quo, .lit n | .rem, .lit n => if n = 0 then l else []
  | .shl, .lit n | .shr, .lit n => if n < 0 then l else []
  | _, _ => l

def arith (o : BinOp) (k : IntKind) (x y : IV) : Option (IV × List Bool) :=
  match x, y with
  | .lit a, .lit b => match arithLit o k a b with
    | some v => some (v, [])
    | none => (arithSym o k x y).map fun r => (r.1, arithReq o y r.2)
  | _, _ => (arithSym o k x y).map fun r => (r.1, arithReq o y r.2)

def isCmp : BinOp → Bool
  | .eql | .neq | .lss | .leq | .gtr | .geq => true
  | _ => false

def cmpLit (o : BinOp) (x y : Int) : Bool :=
  match o with
  | .eql => x == y
  | .neq => x != y
  | .lss => decide (x < y)
  | .leq => decide (x ≤ y)
  | .gtr => decide (y < x)
  | _ => decide (y ≤ x)

def cmpSym (o : BinOp) (x y : Int) : Bool :=
  match o with
  | .eql => lbEqI x y
  | .neq => lbNot (lbEqI x y)
  | .lss => lbLt x y
  | .leq => lbLe x y
  | .gtr => lbLt y x
  | _ => lbLe y x

def cmpI (o : BinOp) (x y : IV) : BV :=
  match x, y with
  | .lit a, .lit b => .lit (cmpLit o a b)
  | _, _ => .sym (cmpSym o x.li y.li)

def negIV (k : IntKind) : IV → IV
  | .lit m => .lit (k.wrap (0 - m))
  | .sym m => .sym (liSub k (liLit 0) m)

def bvNot : BV → BV
  | .lit b => .lit (!b)
  | .sym b => .sym (lbNot b)

def bvAnd : BV → BV → BV
  | .lit false, _ => .lit false
  | .lit true, y => y
  | .sym x, .lit true => .sym x
  | .sym x, y => .sym (lbAnd x y.lb)

def bvEq : BV → BV → BV
  | .lit a, .lit b => .lit (a == b)
  | x, y => .sym (lbEqB x.lb y.lb)

def kindNo : IntKind → Nat
  | .i8 => 10 | .i16 => 11 | .i32 => 12 | .i64 => 13 | .u8 => 14 | .u16 => 15 | .u32 => 16 | .u64 => 17

def SC.kind : SC → Nat
  | .bool _ => 1
  | .str _ => 2
  | .int k _ => kindNo k
  | .byte _ => 14
  | _ => 0

/-- the cells are of the kinds that these are of -/
def alike : List SC → List SC → Bool
  | [], [] => true
  | x :: l, y :: r => match x.kind with
    | 0 => false
    | n + 1 => match Nat.beq (n + 1) y.kind with
      | true => alike l r
      | false => false
  | _, _ => false

/-- '==' of two cells of one kind -/
def eqS : SC → SC → Option BV
  | .bool a, .bool b => some (bvEq a b)
  | .str a, .str b => some (.sym (lbEqS a b))
  | x, y => match asI x, asI y with
    | some (_, a), some (_, b) => some (cmpI .eql a b)
    | _, _ => none

def eqCells : List SC → List SC → Option BV
  | [], [] => some (.lit true)
  | [x], [y] => eqS x y
  | x :: l, y :: r => match eqS x y, eqCells l r with
    | some a, some b => some (bvAnd a b)
    | _, _ => none
  | _, _ => none

def pureV (d : D) : Option Eff := some ⟨d, none, []⟩
def pureS (x : SC) : Option Eff := some ⟨.s x, none, []⟩

def memN : List Nat → Nat → Bool
  | [], _ => false
  | a :: r, n => match Nat.beq a n with | true => true | false => memN r n

def isEq : BinOp → Option Bool
  | .eql => some true
  | .neq => some false
  | _ => none

def isShift : BinOp → Bool
  | .shl | .shr => true
  | _ => false

def bvIf (e : Bool) (v : BV) : BV :=
  match e with
  | true => v
  | false => bvNot v

def binopI (op : BinOp) (k k' : IntKind) (m n : IV) : Option Eff :=
  match isShift op, decide (k = k'), isCmp op with
  | true, _, _ => (arith op k m n).bind fun r => some ⟨.s (.int k r.1), none, r.2⟩
  | false, true, true => pureS (.bool (cmpI op m n))
  | false, true, false => (arith op k m n).bind fun r => some ⟨.s (.int k r.1), none, r.2⟩
  | false, false, _ => none

def binop (c : Cfg) (z : Zs) (t : Nat) (op : BinOp) (x y : D) : Option Eff :=
  match x, y with
  | .agg a, .agg b => match isEq op, memN c.eqs t, zeroCells c z.ext z.strs z.ints 20 t with
    | some e, true, some l => match alike l a && alike l b with
      | true => (eqCells a b).bind fun v => pureS (.bool (bvIf e v))
      | false => none
    | _, _, _ => none
  | .s (.str a), .s (.str b) => match op with
    | .add => some ⟨.s (.str (lsCat a b)), none, [lbRoom a b]⟩
    | _ => match isEq op with
      | some e => pureS (.bool (bvIf e (.sym (lbEqS a b))))
      | none => none
  | .s (.bool a), .s (.bool b) => match isEq op, c.ty t with
    | some e, .bool => pureS (.bool (bvIf e (bvEq a b)))
    | _, _ => none
  | .s (.ptr _ _), .s .nilp => match isEq op, c.ty t with
    | some e, .ptr _ => pureS (.bool (.lit (!e)))
    | _, _ => none
  | .s a, .s b => match asI a, asI b with
    | some (k, m), some (k', n) => binopI op k k' m n
    | _, _ => none
  | _, _ => none

def cellsOf : D → Option (List SC)
  | .s x => some [x]
  | .agg l => some l
  | .tup _ => none

def takeN : Nat → List SC → Option (List SC)
  | 0, _ => some []
  | _ + 1, [] => none
  | n + 1, x :: l => (takeN n l).map (x :: ·)

def setAt : List SC → Nat → List SC → Option (List SC)
  | l, 0, [] => some l
  | _ :: l, 0, y :: r => (setAt l 0 r).map (y :: ·)
  | x :: l, n + 1, r => (setAt l n r).map (x :: ·)
  | _, _, _ => none

def dropN : Nat → List SC → List SC
  | 0, l => l
  | _ + 1, [] => []
  | n + 1, _ :: l => dropN n l

def partOf (t : Ty) (l : List SC) (off : Nat) : Option D :=
  if t.isAgg then (takeN t.size (dropN off l)).map .agg
  else match dropN off l with
    | x :: _ => some (.s x)
    | [] => none

/-- may this cell lie in memory? (no address of the call's own) -/
def SC.flat : SC → Bool
  | .bool _ | .int _ _ | .byte _ | .str _ | .exts _ _ | .strs _ | .ints _ => true
  | _ => false

def fillParts (place : Nat → Option (Nat × Nat)) (s : St) : List SC → List (Nat × Operand) → Option (List SC)
  | l, [] => some l
  | l, (i, x) :: r =>
    match place i, (ev s x).bind cellsOf with
    | some (off, size), some cs => if Nat.beq cs.length size then (setAt l off cs).bind fun l' => fillParts place s l' r else none
    | _, _ => none

def nthF : List (Nat × Nat) → Nat → Option (Nat × Nat)
  | [], _ => none
  | x :: _, 0 => some x
  | _ :: l, n + 1 => nthF l n

def litNat : D → Option Nat
  | .s (.int _ (.lit n)) => match n with
    | .ofNat k => some k
    | _ => none
  | _ => none

def ivOf : D → Option IV
  | .s x => (asI x).map (·.2)
  | _ => none

def Ops.strs : List SC → Option (List (List UInt8))
  | [] => some []
  | .str s :: r => (Ops.strs r).map (s :: ·)
  | _ => none

def Ops.bytes : List SC → Option (List UInt8)
  | [] => some []
  | .byte y :: r => (Ops.bytes r).map (y :: ·)
  | .int .u8 n :: r => (Ops.bytes r).map (lyOfInt n.li :: ·)
  | _ => none

/-- an argument as the callee sees it -/
def argOf (s : St) : D → Option D
  | .s (.lsl n off len _) => match s.m n with
    | some b => ((takeN len (dropN off b.cells)).bind Ops.strs).map fun l => .s (.strs (ltLit l))
    | none => none
  | .s x => if x.flat then some (.s x) else none
  | .agg l => if l.all SC.flat then some (.agg l) else none
  | .tup _ => none

def argsOf (s : St) : List Operand → Option (List D)
  | [] => some []
  | x :: r => match (ev s x).bind (argOf s), argsOf s r with
    | some a, some b => some (a :: b)
    | _, _ => none

def SC.clean : SC → Bool
  | .bool _ | .int _ _ | .byte _ | .str _ | .exts _ true => true
  | _ => false

def D.clean : D → Bool
  | .s x => x.clean
  | .agg l => l.all SC.clean
  | .tup _ => false

def D.cleanT : D → Bool
  | .tup l => l.all D.clean
  | d => d.clean

/-- an argument that names no block -/
def argFlat : D → Option D
  | .s x => if x.flat then some (.s x) else none
  | .agg l => if l.all SC.flat then some (.agg l) else none
  | .tup _ => none

def argsFlat (s : St) : List Operand → Option (List D)
  | [] => some []
  | x :: r => match (ev s x).bind argFlat, argsFlat s r with
    | some a, some b => some (a :: b)
    | _, _ => none

/-- the block that the first argument leads to, and the other arguments -/
def lentOf (m : Nat) (s : St) : List Operand → Option (Nat × Blk × List Operand)
  | [] => none
  | x :: r => match ev s x with
    | some (.s (.ptr n off)) => match off, s.m n with
      | 0, some b => match Nat.beq b.cells.length m with
        | true => some (n, b, r)
        | false => none
      | _, _ => none
    | _ => none

def callE (c : Cfg) (s : St) (f : Nat) (args : List Operand) : Option Eff :=
  match c.lent f with
  | some m => (lentOf m s args).bind fun q => (argsFlat s q.2.2).bind fun l => (c.callm f q.2.1.cells l).bind fun r =>
      if r.1.cleanT && (r.2.1.all SC.clean && Nat.beq r.2.1.length q.2.1.cells.length) then some ⟨r.1, some (q.1, ⟨r.2.1, q.2.1.ty⟩), r.2.2⟩ else none
  | none => (argsOf s args).bind fun l => (c.call f l).bind fun r => if r.1.cleanT then some ⟨r.1, none, r.2⟩ else none

/-- when an operation panics, and with which error -/
def dieE (c : Cfg) (s : St) (f : Nat) (args : List Operand) : Option (BV × Int) :=
  match c.lent f with
  | some m => (lentOf m s args).bind fun q => (argsFlat s q.2.2).bind fun l => c.die f q.2.1.cells l
  | none => (argsOf s args).bind fun l => c.die f [] l

def dieOf (c : Cfg) (s : St) (o : Oper) : Option (BV × Int) :=
  match o.op with
  | .call k => match k.callee with
    | .value (.func f) => dieE c s f k.args.toList
    | _ => none
  | _ => none

def idxReq (i : IV) (n : Int) : List Bool := [lbLe (liLit 0) i.li, lbLt i.li n]

def asY : SC → Option UInt8
  | .byte y => some y
  | .int .u8 n => some (lyOfInt n.li)
  | _ => none

/-- bytes of a text laid over bytes -/
def copyInto (b : (List UInt8)) : Nat → List SC → Option (List SC)
  | _, [] => some []
  | i, x :: r => match asY x with
    | some y => (copyInto b (i + 1) r).map (.byte (lyIf (lbLt (liLit i) (liLen b)) (lsAt b (liLit i)) y) :: ·)
    | none => none

def copyE (c : Cfg) (s : St) : List Operand → List Nat → Option Eff
  | [x, y], [t, _] => match c.ty t, ev s x, ev s y with
    | .slice e, some (.s (.lsl n off len _)), some (.s (.str b)) => match c.ty e, s.m n with
      | .int .u8, some blk => ((takeN len (dropN off blk.cells)).bind (copyInto b 0)).bind fun new => (setAt blk.cells off new).map fun l' => ⟨.s (.int .i64 (.sym (liLen b))), some (n, ⟨l', blk.ty⟩), [lbLe (liLen b) (liLit len)]⟩
      | _, _ => none
    | _, _, _ => none
  | _, _ => none

def ivsOf : Option (Option D) → Option (Option IV)
  | none => some none
  | some d => (d.bind ivOf).map some

def natOf (n : Nat) : Option (Option D) → Option Nat
  | none => some n
  | some d => d.bind litNat

def loIv : Option IV → Int
  | none => liLit 0
  | some n => n.li

def hiIv (a : (List UInt8)) : Option IV → Int
  | none => liLen a
  | some n => n.li

def loReq (a : (List UInt8)) (l h : Option IV) : List Bool :=
  match l with
  | none => []
  | some n => [lbLe (liLit 0) n.li, lbLe n.li (hiIv a h)]

def hiReq (a : (List UInt8)) (h : Option IV) : List Bool :=
  match h with
  | none => []
  | some n => [lbLe (liLit 0) n.li, lbLe n.li (liLen a)]

def minmax (mx : Bool) (s : St) : List Operand → Option Eff
  | [x, y] => match ev s x, ev s y with
    | some (.s p), some (.s q) => match asI p, asI q with
      | some (k, m), some (k', n) => if k = k' then pureS (.int k (.sym (if mx then liMax m.li n.li else liMin m.li n.li))) else none
      | _, _ => none
    | _, _ => none
  | _ => none

def opEval (c : Cfg) (z : Zs) (s : St) (o : Oper) : Option Eff :=
  match o.op with
  | .move x | .assign x => (ev s x).bind pureV
  | .pick k a b => match ev s k with
    | some (.s (.bool (.lit true))) => (ev s a).bind pureV
    | some (.s (.bool (.lit false))) => (ev s b).bind pureV
    | _ => none
  | .alloc t => match o.dst, zeroCells c z.ext z.strs z.ints 20 t with
    | some d, some l => some ⟨.s (.ptr d 0), some (d, ⟨l, t⟩), []⟩
    | _, _ => none
  | .box t x => match o.dst, (ev s x).bind cellsOf with
    | some d, some l => if l.all SC.flat then some ⟨.s (.ptr d 0), some (d, ⟨l, t⟩), []⟩ else none
    | _, _ => none
  | .build t ps => match c.ty t, zeroCells c z.ext z.strs z.ints 20 t with
    | .struct fs _, some l => if fs.all fun f => (c.ty f.2).known then (fillParts (fun i => (nthF fs i).map fun f => (f.1, (c.ty f.2).size)) s l ps.toList).map fun r => ⟨.agg r, none, []⟩ else none
    | .arr _ e _, some l => if (c.ty e).known then (fillParts (fun i => some (i * (c.ty e).size, (c.ty e).size)) s l ps.toList).map fun r => ⟨.agg r, none, []⟩ else none
    | _, _ => none
  | .buildSlice t len ps => match c.ty t, o.dst with
    | .slice e, some d => match zeroCells c z.ext z.strs z.ints 20 e with
      | some zl => (fillParts (fun i => some (i * (c.ty e).size, (c.ty e).size)) s (repl len zl) ps.toList).bind fun r =>
          if r.all SC.flat && ((c.ty e).known && (Nat.ble (len * (c.ty e).size) 65536 && (Nat.beq zl.length (c.ty e).size && Nat.blt 0 (c.ty e).size))) then some ⟨.s (.lsl d 0 len len), some (d, ⟨r, e⟩), []⟩ else none
      | none => none
    | _, _ => none
  | .load t a => match ev s a with
    | some (.s (.ptr n off)) => match s.m n with
      | some b => if (c.ty t).known then (partOf (c.ty t) b.cells off).bind pureV else none
      | none => none
    | some (.s (.eptr kd bd off)) => match c.ty t, off with
      | .struct _ 2, 0 => pureV (.agg [.int .i64 (.sym kd), .str bd])
      | .int .i64, 0 => pureS (.int .i64 (.sym kd))
      | .str, 1 => pureS (.str bd)
      | _, _ => none
    | some (.s (.sptr x)) => match c.ty t with
      | .str => pureS (.str x)
      | _ => none
    | some (.s (.iptr x)) => match c.ty t with
      | .int .i64 => pureS (.int .i64 (.sym x))
      | _ => none
    | _ => none
  | .store t a x => match ev s a, (ev s x).bind cellsOf with
    | some (.s (.ptr n off)), some cs => match s.m n with
      | some b => if (c.ty t).known && (Nat.beq cs.length (c.ty t).size && cs.all SC.flat) then (setAt b.cells off cs).map fun l => ⟨.tup [], some (n, ⟨l, b.ty⟩), []⟩ else none
      | none => none
    | _, _ => none
  | .nilCheck x => match ev s x with
    | some (.s (.ptr n off)) => pureS (.ptr n off)
    | _ => none
  | .binOp op t x y _ => match ev s x, ev s y with
    | some a, some b => binop c z t op a b
    | _, _ => none
  | .unOp op _ x => match op, ev s x with
    | .not, some (.s (.bool b)) => pureS (.bool (bvNot b))
    | .neg, some (.s (.int k n)) => pureS (.int k (negIV k n))
    | _, _ => none
  | .convert src dst x => match c.ty src, c.ty dst, ev s x with
    | .int _, .int k, some (.s a) => (asI a).bind fun r => pureS (.int k (match r.2 with | .lit n => .lit (k.wrap n) | .sym n => .sym (liConv k n)))
    | .slice e, .str, some (.s (.lsl n off len _)) => match s.m n, c.ty e with
      | some b, .int .u8 => if Nat.ble len 65536 then ((takeN len (dropN off b.cells)).bind Ops.bytes).bind fun l => pureS (.str (lsOf l)) else none
      | _, _ => none
    | _, _, _ => none
  | .slice t x lo hi none => match c.ty t, ev s x, lo.map (ev s), hi.map (ev s) with
    | .str, some (.s (.str a)), l, h =>
      match ivsOf l, ivsOf h with
      | some l', some h' => some ⟨.s (.str (lsSub a (loIv l') (hiIv a h'))), none, loReq a l' h' ++ hiReq a h'⟩
      | _, _ => none
    | .arr n e _, some (.s (.ptr b off)), l, h =>
      match natOf 0 l, natOf n h with
      | some l', some h' => if (Nat.ble l' h' && Nat.ble h' n) && (Nat.blt l' n && ((c.ty e).known && Nat.ble n 65536)) then pureS (.lsl b (off + l' * (c.ty e).size) (h' - l') (n - l')) else none
      | _, _ => none
    | _, _, _, _ => none
  | .fieldAddr t x f => match c.ty t, ev s x with
    | .struct fs _, some (.s (.ptr n off)) => (nthF fs f).bind fun p => if okTy (c.ty p.2) then pureS (.ptr n (off + p.1)) else none
    | .struct fs _, some (.s (.eptr kd bd off)) => (nthF fs f).bind fun p => if okTy (c.ty p.2) then pureS (.eptr kd bd (off + p.1)) else none
    | _, _ => none
  | .field t x f => match c.ty t, ev s x with
    | .struct fs _, some (.agg l) => (nthF fs f).bind fun p => if (c.ty p.2).known then (partOf (c.ty p.2) l p.1).bind pureV else none
    | _, _ => none
  | .indexAddr t x i => match c.ty t, ev s x, ev s i with
    | .arr n e _, some (.s (.ptr b off)), some j => (litNat j).bind fun k => if Nat.blt k n && (c.ty e).known then pureS (.ptr b (off + k * (c.ty e).size)) else none
    | .slice e, some (.s (.exts l _)), some j => (ivOf j).bind fun k => if (c.ty e).known && Nat.beq (c.ty e).size 2 then some ⟨.s (.eptr (lxKind l k.li) (lxBody l k.li) 0), none, idxReq k (liLenX l)⟩ else none
    | .slice e, some (.s (.strs l)), some j => (ivOf j).bind fun k => if (c.ty e).known && Nat.beq (c.ty e).size 1 then some ⟨.s (.sptr (ltAt l k.li)), none, idxReq k (liLenT l)⟩ else none
    | .slice e, some (.s (.ints l)), some j => (ivOf j).bind fun k => if (c.ty e).known && Nat.beq (c.ty e).size 1 then some ⟨.s (.iptr (llAt l k.li)), none, idxReq k (liLenL l)⟩ else none
    | _, _, _ => none
  | .index t x i => match c.ty t, ev s x, ev s i with
    | .str, some (.s (.str a)), some j => (ivOf j).bind fun k => some ⟨.s (.byte (lsAt a k.li)), none, idxReq k (liLen a)⟩
    | .arr n e _, some (.agg l), some j => (litNat j).bind fun k => if Nat.blt k n && (c.ty e).known then (partOf (c.ty e) l (k * (c.ty e).size)).bind pureV else none
    | _, _, _ => none
  | .extract x i => match ev s x with
    | some (.tup l) => (l[i]?.bind fun d => if d.clean then some d else none).bind pureV
    | _ => none
  | .call k => match k.callee with
    | .value (.func f) => callE c s f k.args.toList
    | .builtin .len => match k.args.toList, k.argTypes.toList with
      | [x], t :: _ => match ev s x, c.ty t with
        | some (.s (.str a)), .str => pureS (.int .i64 (.sym (liLen a)))
        | some (.s (.exts a _)), .slice _ => pureS (.int .i64 (.sym (liLenX a)))
        | some (.s (.strs a)), .slice _ => pureS (.int .i64 (.sym (liLenT a)))
        | some (.s (.ints a)), .slice _ => pureS (.int .i64 (.sym (liLenL a)))
        | some (.s (.lsl _ _ n _)), .slice _ => pureS (.int .i64 (.lit n))
        | _, _ => none
      | _, _ => none
    | .builtin .copy => copyE c s k.args.toList k.argTypes.toList
    | .builtin .min => minmax false s k.args.toList
    | .builtin .max => minmax true s k.args.toList
    | _ => none
  | _ => none

def updT (f : Nat → Option D) (n : Nat) (d : D) : Nat → Option D := fun u => match Nat.beq u n with | true => some d | false => f u
def updM (f : Nat → Option Blk) (n : Nat) (d : Blk) : Nat → Option Blk := fun u => match Nat.beq u n with | true => some d | false => f u

def putD (c : Cfg) (s : St) (dst : Option Nat) (v : D) : Option St :=
  match dst with
  | none => some s
  | some d => if c.okDst d then some { s with t := updT s.t d v } else none

/-- writes into a block that is there -/
def isWr : Op → Bool
  | .store .. => true
  | .call _ => true
  | _ => false

/-- a new block must have a new name -/
def putB (o : Oper) (s : St) : Option (Nat × Blk) → Option St
  | none => some s
  | some (n, b) => match isWr o.op with
    | true => some { s with m := updM s.m n b }
    | false => match s.m n, Nat.ble lentName n with
      | none, false => some { s with m := updM s.m n b }
      | _, _ => none

inductive Out where
  | ok (s : St) (req : List Bool)
  | dead (n : Int) (s : St) (req : List Bool)
  | split (j : Nat) (b : Bool)
  | fail (i : Nat)

def asmAt : List (Nat × Bool) → Nat → Option Bool
  | [], _ => none
  | (a, x) :: r, t => match Nat.beq a t with | true => some x | false => asmAt r t

def isGuardL : List Oper → Nat → Bool
  | [], _ => false
  | o :: l, i => match o.guard with
    | none => isGuardL l i
    | some (j, _) => match Nat.beq j i with
      | true => true
      | false => isGuardL l i

inductive Gd where
  | run
  | skip
  | bad

def guardOf (ops : Array Oper) (s : St) (o : Oper) : Gd :=
  match o.guard with
  | none => .run
  | some (j, want) => match (ops[j]?).bind (·.dst) with
    | none => .bad
    | some d => match s.t d with
      | some (.s (.bool (.lit b))) => if b == want then .run else .skip
      | some (.tup []) => .skip
      | _ => .bad

/-- the value, behind an assumption on it -/
def assume (v : Bool) : D → Option D
  | .s (.bool (.sym _)) => some (.s (.bool (.lit v)))
  | _ => none

def put2 (c : Cfg) (s : St) (o : Oper) (v : D) (b : Option (Nat × Blk)) : Option St :=
  (putB o s b).bind fun s' => putD c s' o.dst v

def okOr (i : Nat) (x : Option St) (r : List Bool) : Out :=
  match x with
  | some s => .ok s r
  | none => .fail i

/-- does the operation panic? a split where that is open -/
inductive Dy where
  | no
  | yes (n : Int)
  | ask (b : Bool)

def dying (asm : List (Nat × Bool)) (i : Nat) : Option (BV × Int) → Dy
  | none => .no
  | some (.lit false, _) => .no
  | some (.lit true, n) => .yes n
  | some (.sym b, n) => match asmAt asm i with
    | some true => .yes n
    | some false => .no
    | none => .ask b

def step1 (c : Cfg) (z : Zs) (ops : Array Oper) (asm : List (Nat × Bool)) (i : Nat) (o : Oper) (s : St) : Out :=
  match guardOf ops s o with
  | .bad => .fail i
  | .skip => okOr i (putD c s o.dst (.tup [])) []
  | .run => match dieOf c s o with
    | some dn => match dying asm i (some dn) with
      | .yes n => match opEval c z s o with
        | none => .fail i
        | some e => match put2 c s o e.val e.blk with
          | some s' => .dead n s' e.req
          | none => .fail i
      | .ask b => .split i b
      | .no => match opEval c z s o with
        | none => .fail i
        | some e => okOr i (put2 c s o e.val e.blk) e.req
    | none => match opEval c z s o with
      | none => .fail i
      | some e => match asmAt asm i with
        | some v => match assume v e.val with
          | some d => okOr i (put2 c s o d e.blk) e.req
          | none => .fail i
        | none => match e.val, isGuardL ops.toList i with
          | .s (.bool (.sym b)), true => .split i b
          | _, _ => okOr i (put2 c s o e.val e.blk) e.req

def regRun (c : Cfg) (z : Zs) (ops : Array Oper) (asm : List (Nat × Bool)) : List Oper → Nat → St → List Bool → Option (Nat × Int) → Out
  | [], _, s, r, dk => match dk with
    | none => .ok s r
    | some (_, n) => .dead n s r
  | o :: l, i, s, r, dk => match step1 c z ops asm i o s with
    | .ok s' q => regRun c z ops asm l (i + 1) s' (r ++ q) dk
    | .dead n s' q => match dk with
      | none => regRun c z ops asm l (i + 1) s' (r ++ q) (some (i, n))
      | some _ => .fail i
    | .split j b => .split j b
    | .fail j => .fail j

def asmBelow : List (Nat × Bool) → Nat → Bool
  | [], _ => true
  | (a, _) :: l, i => match Nat.blt a i with
    | true => asmBelow l i
    | false => false

inductive K where
  | code (i : Nat) (b : Code)
  | inBlock (id : Nat)
  | inLoop (i : Nat) (b : Code)
  | mark (i : Nat)
  | reg (ops : Array Oper) (draw : Bool) (asm : List (Nat × Bool))

inductive Tr where
  | ret (d : D) (l : List SC)
  | die (n : Int)
  | ite (b : Bool) (x y : Tr)
  | req (l : List Bool) (k : Tr)
  | loop (i : Nat) (v : List (Nat × D)) (m : List (Nat × Blk))
  | back (i : Nat) (v : List (Nat × D)) (m : List (Nat × Blk))
  | fail (why : Nat)

def nloops : Code → Nat
  | .seq a b => nloops a + nloops b
  | .cond _ a b => nloops a + nloops b
  | .block _ b => nloops b
  | .loop b => nloops b + 1
  | .scope _ => 0
  | _ => 0

def popTo (id : Nat) : List K → Option (List K)
  | [] => none
  | .inBlock j :: k => if Nat.beq j id then some k else popTo id k
  | _ :: k => popTo id k

def resOf (c : Cfg) (s : St) : ResultVar → Option D
  | .tmp t => (s.t t).bind fun d => if d.clean then some d else none
  | .cell a t => match s.t a with
    | some (.s (.ptr n off)) => match s.m n with
      | some b => if (c.ty t).known then (partOf (c.ty t) b.cells off).bind fun d => if d.clean then some d else none else none
      | none => none
    | _ => none

def ressOf (c : Cfg) (s : St) : List ResultVar → Option (List D)
  | [] => some []
  | x :: r => match resOf c s x, ressOf c s r with
    | some a, some b => some (a :: b)
    | _, _ => none

def finish (c : Cfg) (rs : List ResultVar) (s : St) : Tr :=
  match ressOf c s rs with
  | some [d] => match s.m lentName with
    | none => .ret d []
    | some b => if b.cells.all SC.clean then .ret d b.cells else .fail 10
  | some l => match s.m lentName with
    | none => .ret (.tup l) []
    | some b => if b.cells.all SC.clean then .ret (.tup l) b.cells else .fail 10
  | none => .fail 1

def SC.names : SC → List Nat
  | .ptr n _ => [n]
  | .lsl n _ _ _ => [n]
  | _ => []

def D.named (ok : Nat → Bool) : D → Bool
  | .s x => x.names.all ok
  | .agg l => l.all fun x => x.names.all ok
  | .tup [] => true
  | .tup _ => false

def viewT (s : St) (bs : List Nat) : List Nat → Option (List (Nat × D))
  | [] => some []
  | t :: r => match s.t t, viewT s bs r with
    | some d, some l => if d.named (memN bs) then some ((t, d) :: l) else none
    | _, _ => none

def viewM (s : St) : List Nat → Option (List (Nat × Blk))
  | [] => some []
  | t :: r => match s.m t, viewM s r with
    | some d, some l => some ((t, d) :: l)
    | _, _ => none

def view (s : St) (k : List Nat × List Nat) (f : List (Nat × D) → List (Nat × Blk) → Tr) : Tr :=
  match viewT s k.2 k.1, viewM s k.2 with
  | some v, some m => f v m
  | _, _ => .fail 5

def lookT : List (Nat × D) → Nat → Option D
  | [], _ => none
  | (a, x) :: r, t => match Nat.beq t a with | true => some x | false => lookT r t

def lookM : List (Nat × Blk) → Nat → Option Blk
  | [], _ => none
  | (a, x) :: r, t => match Nat.beq t a with | true => some x | false => lookM r t

def St.of (v : List (Nat × D)) (m : List (Nat × Blk)) : St := { t := lookT v, m := lookM m }

def sym (c : Cfg) (z : Zs) (rs : List ResultVar) : Nat → List K → St → Tr
  | 0, _, _ => .fail 0
  | _ + 1, [], s => finish c rs s
  | n + 1, .code i x :: k, s => match x with
    | .skip => sym c z rs n k s
    | .seq a b => sym c z rs n (.code i a :: .code (i + nloops a) b :: k) s
    | .block id b => sym c z rs n (.code i b :: .inBlock id :: k) s
    | .exit id => match popTo id k with
      | some k' => sym c z rs n k' s
      | none => .fail 2
    | .ret => finish c rs s
    | .cond x a b => match ev s x with
      | some (.s (.bool (.lit true))) => sym c z rs n (.code i a :: k) s
      | some (.s (.bool (.lit false))) => sym c z rs n (.code (i + nloops a) b :: k) s
      | some (.s (.bool (.sym q))) => .ite q (sym c z rs n (.code i a :: k) s) (sym c z rs n (.code (i + nloops a) b :: k) s)
      | _ => .fail 3
    | .loop b => match c.keep i with
      | none => match nloops b with
        | 0 => sym c z rs n (.code (i + 1) b :: .inLoop i b :: k) s
        | _ + 1 => .fail 8
      | some q => view s q (.loop i)
    | .region _ ops d => sym c z rs n (.reg ops d [] :: k) s
    | _ => .fail 4
  | n + 1, .inBlock _ :: k, s => sym c z rs n k s
  | n + 1, .inLoop i b :: k, s => sym c z rs n (.code (i + 1) b :: .inLoop i b :: k) s
  | _ + 1, .mark i :: _, s => match c.keep i with
      | none => .fail 6
      | some q => view s q (.back i)
  | n + 1, .reg ops d asm :: k, s => match regRun c z ops asm ops.toList 0 s [] none with
    | .ok s' [] => sym c z rs n k s'
    | .ok s' r => .req r (sym c z rs n k s')
    | .dead e _ r => match c.hold s with
      | true => .req r (.die e)
      | false => .fail 9
    | .split j b => match asmBelow asm j with
      | true => .ite b (sym c z rs n (.reg ops d ((j, true) :: asm) :: k) s) (sym c z rs n (.reg ops d ((j, false) :: asm) :: k) s)
      | false => .fail 7
    | .fail i => .fail (100 + i)

/-- the i-th loop of some code, and what stands behind it -/
def loopAt : Nat → List K → Code → Nat → Option (Code × List K)
  | i, k, .seq a b, j => match loopAt i (.code (i + nloops a) b :: k) a j with
    | some r => some r
    | none => loopAt (i + nloops a) k b j
  | i, k, .cond _ a b, j => match loopAt i k a j with
    | some r => some r
    | none => loopAt (i + nloops a) k b j
  | i, k, .block id b, j => loopAt i (.inBlock id :: k) b j
  | i, k, .loop b, j => match Nat.beq i j with
    | true => some (b, k)
    | false => loopAt (i + 1) (.mark i :: k) b j
  | _, _, _, _ => none

def roundOf (b : Code) (j : Nat) : List K :=
  match loopAt 0 [] b j with
  | some (x, k) => .code (j + 1) x :: .mark j :: k
  | none => []

def st0 (args : List D) : St :=
  { t := fun u => args[u]?, m := fun _ => none }

/-- with a block that is lent -/
def stM (cells : List SC) (args : List D) : St :=
  { t := fun u => (D.s (.ptr lentName 0) :: args)[u]?, m := fun n => match Nat.beq n lentName with | true => some ⟨cells, 0⟩ | false => none }

end Go.Adit

namespace Go.Adit
open Go.RowKit

def imax : Int := 9223372036854775807
def inR (k : IntKind) (n : Int) : Prop := k.min ≤ n ∧ n ≤ k.max

def ExtsAt (w : World) (A : Nat → Prop) (l : List Ext) (v : Value) : Prop :=
  ∃ (a : Option Go.Addr) (cap : Nat), v = .slice a l.length cap ∧ (l.length : Int) ≤ imax ∧
    (l = [] ∨ ∃ b off, a = some ⟨b, off, none⟩ ∧ b < w.heap.size ∧ A b ∧ ∀ (i : Nat) (e : Ext), l[i]? = some e →
      w.cell? ⟨b, off + i * 2, none⟩ = some (.int .i64 e.kind) ∧ inR .i64 e.kind ∧
      w.cell? ⟨b, off + i * 2 + 1, none⟩ = some (.string ⟨⟨e.body⟩⟩) ∧ (e.body.length : Int) ≤ imax)

def StrsAt (w : World) (A : Nat → Prop) (l : List (List UInt8)) (v : Value) : Prop :=
  ∃ (a : Option Go.Addr) (cap : Nat), v = .slice a l.length cap ∧ (l.length : Int) ≤ imax ∧
    (l = [] ∨ ∃ b off, a = some ⟨b, off, none⟩ ∧ b < w.heap.size ∧ A b ∧ ∀ (i : Nat) (e : List UInt8), l[i]? = some e →
      w.cell? ⟨b, off + i, none⟩ = some (.string ⟨⟨e⟩⟩) ∧ (e.length : Int) ≤ imax)

def IntsAt (w : World) (A : Nat → Prop) (l : List Int) (v : Value) : Prop :=
  ∃ (a : Option Go.Addr) (cap : Nat), v = .slice a l.length cap ∧ (l.length : Int) ≤ imax ∧
    (l = [] ∨ ∃ b off, a = some ⟨b, off, none⟩ ∧ b < w.heap.size ∧ A b ∧ ∀ (i : Nat) (e : Int), l[i]? = some e →
      w.cell? ⟨b, off + i, none⟩ = some (.int .i64 e) ∧ inR .i64 e)

def RepS (β : Nat → Option Nat) (own : Nat → Prop) (w : World) : SC → Value → Prop
  | .bool b, v => v = .bool b.lb
  | .int k n, v => v = .int k n.li ∧ inR k n.li
  | .byte y, v => v = .int .u8 (y.toNat : Int)
  | .str s, v => v = .string ⟨⟨s⟩⟩ ∧ (s.length : Int) ≤ imax
  | .exts l o, v => ExtsAt w (fun b => (∀ n, β n ≠ some b) ∧ (o = true → own b)) l v
  | .strs l, v => StrsAt w (fun b => ∀ n, β n ≠ some b) l v
  | .ints l, v => IntsAt w (fun b => ∀ n, β n ≠ some b) l v
  | .ptr n off, v => ∃ b, β n = some b ∧ v = .pointer (some ⟨b, off, none⟩)
  | .lsl n off len cap, v => ∃ b, β n = some b ∧ v = .slice (some ⟨b, off, none⟩) len cap ∧ (len : Int) ≤ imax
  | .eptr kd bd off, v => ∃ b o, v = .pointer (some ⟨b, o + off, none⟩) ∧ b < w.heap.size ∧ (∀ n, β n ≠ some b) ∧
      w.cell? ⟨b, o, none⟩ = some (.int .i64 kd) ∧ inR .i64 kd ∧ w.cell? ⟨b, o + 1, none⟩ = some (.string ⟨⟨bd⟩⟩) ∧ (bd.length : Int) ≤ imax
  | .sptr s, v => ∃ b o, v = .pointer (some ⟨b, o, none⟩) ∧ b < w.heap.size ∧ (∀ n, β n ≠ some b) ∧
      w.cell? ⟨b, o, none⟩ = some (.string ⟨⟨s⟩⟩) ∧ (s.length : Int) ≤ imax
  | .iptr x, v => ∃ b o, v = .pointer (some ⟨b, o, none⟩) ∧ b < w.heap.size ∧ (∀ n, β n ≠ some b) ∧
      w.cell? ⟨b, o, none⟩ = some (.int .i64 x) ∧ inR .i64 x
  | .fn f, v => v = .func (.func f) #[] #[]
  | .nilp, v => v = .pointer none

def RepL (β : Nat → Option Nat) (own : Nat → Prop) (w : World) : List SC → List Value → Prop
  | [], [] => True
  | x :: l, v :: r => RepS β own w x v ∧ RepL β own w l r
  | _, _ => False

def Rep1 (β : Nat → Option Nat) (own : Nat → Prop) (w : World) : D → Value → Prop
  | .s x, v => RepS β own w x v
  | .agg l, v => ∃ cs, v = .agg ⟨cs⟩ ∧ RepL β own w l cs
  | .tup _, _ => False

def RepLs (β : Nat → Option Nat) (own : Nat → Prop) (w : World) : List D → List Value → Prop
  | [], [] => True
  | x :: l, v :: r => Rep1 β own w x v ∧ RepLs β own w l r
  | _, _ => False

def RepD (β : Nat → Option Nat) (own : Nat → Prop) (w : World) : D → Value → Prop
  | .tup l, v => ∃ vs, v = .tuple ⟨vs⟩ ∧ RepLs β own w l vs
  | d, v => Rep1 β own w d v

/-- what keeps a reading: blocks that are not the run's own stay -/
structure Step (β β' : Nat → Option Nat) (w w' : World) : Prop where
  cel : ∀ b o v, b < w.heap.size → (∀ n, β n ≠ some b) → w.cell? ⟨b, o, none⟩ = some v → w'.cell? ⟨b, o, none⟩ = some v
  size : w.heap.size ≤ w'.heap.size
  ext : ∀ n b, β n = some b → β' n = some b
  far : ∀ b, b < w.heap.size → (∀ n, β n ≠ some b) → ∀ n, β' n ≠ some b

theorem Step.cell {β β' : Nat → Option Nat} {w w' : World} (h : Step β β' w w') {b o : Nat} (hb : b < w.heap.size) (hn : ∀ n, β n ≠ some b) {v : Value} (hv : w.cell? ⟨b, o, none⟩ = some v) :
    w'.cell? ⟨b, o, none⟩ = some v := h.cel b o v hb hn hv

theorem RepS.mono {β β' : Nat → Option Nat} {own : Nat → Prop} {w w' : World} (h : Step β β' w w') {x : SC} {v : Value} (hr : RepS β own w x v) : RepS β' own w' x v := by
  cases x <;> simp only [RepS] at hr ⊢
  case bool | int | byte | str | fn | nilp => exact hr
  case exts l o =>
    obtain ⟨a, cap, e1, e2, e3⟩ := hr
    refine ⟨a, cap, e1, e2, e3.imp id ?_⟩
    rintro ⟨b, off, f1, f2, ⟨f3, f4⟩, f5⟩
    refine ⟨b, off, f1, Nat.lt_of_lt_of_le f2 h.size, ⟨h.far b f2 f3, f4⟩, fun i e he => ?_⟩
    obtain ⟨g1, g2, g3, g4⟩ := f5 i e he
    exact ⟨h.cell f2 f3 g1, g2, h.cell f2 f3 g3, g4⟩
  case strs l =>
    obtain ⟨a, cap, e1, e2, e3⟩ := hr
    refine ⟨a, cap, e1, e2, e3.imp id ?_⟩
    rintro ⟨b, off, f1, f2, f3, f5⟩
    refine ⟨b, off, f1, Nat.lt_of_lt_of_le f2 h.size, h.far b f2 f3, fun i e he => ?_⟩
    obtain ⟨g1, g2⟩ := f5 i e he
    exact ⟨h.cell f2 f3 g1, g2⟩
  case ints l =>
    obtain ⟨a, cap, e1, e2, e3⟩ := hr
    refine ⟨a, cap, e1, e2, e3.imp id ?_⟩
    rintro ⟨b, off, f1, f2, f3, f5⟩
    refine ⟨b, off, f1, Nat.lt_of_lt_of_le f2 h.size, h.far b f2 f3, fun i e he => ?_⟩
    obtain ⟨g1, g2⟩ := f5 i e he
    exact ⟨h.cell f2 f3 g1, g2⟩
  case ptr n off => obtain ⟨b, e1, e2⟩ := hr; exact ⟨b, h.ext _ _ e1, e2⟩
  case lsl n off len cap => obtain ⟨b, e1, e2⟩ := hr; exact ⟨b, h.ext _ _ e1, e2⟩
  case eptr kd bd off =>
    obtain ⟨b, o, e1, e2, e3, e4, e5, e6, e7⟩ := hr
    exact ⟨b, o, e1, Nat.lt_of_lt_of_le e2 h.size, h.far b e2 e3, h.cell e2 e3 e4, e5, h.cell e2 e3 e6, e7⟩
  case sptr s =>
    obtain ⟨b, o, e1, e2, e3, e4, e5⟩ := hr
    exact ⟨b, o, e1, Nat.lt_of_lt_of_le e2 h.size, h.far b e2 e3, h.cell e2 e3 e4, e5⟩
  case iptr s =>
    obtain ⟨b, o, e1, e2, e3, e4, e5⟩ := hr
    exact ⟨b, o, e1, Nat.lt_of_lt_of_le e2 h.size, h.far b e2 e3, h.cell e2 e3 e4, e5⟩

theorem RepL.mono {β β' : Nat → Option Nat} {own : Nat → Prop} {w w' : World} (h : Step β β' w w') : ∀ {l : List SC} {vs : List Value}, RepL β own w l vs → RepL β' own w' l vs
  | [], [], _ => trivial
  | _ :: _, _ :: _, ⟨h1, h2⟩ => ⟨h1.mono h, RepL.mono h h2⟩
  | [], _ :: _, hr => hr
  | _ :: _, [], hr => hr

theorem Rep1.mono {β β' : Nat → Option Nat} {own : Nat → Prop} {w w' : World} (h : Step β β' w w') {d : D} {v : Value} (hr : Rep1 β own w d v) : Rep1 β' own w' d v := by
  cases d with
  | s x => exact RepS.mono h hr
  | agg l => obtain ⟨cs, e1, e2⟩ := hr; exact ⟨cs, e1, e2.mono h⟩
  | tup l => exact hr

theorem RepLs.mono {β β' : Nat → Option Nat} {own : Nat → Prop} {w w' : World} (h : Step β β' w w') : ∀ {l : List D} {vs : List Value}, RepLs β own w l vs → RepLs β' own w' l vs
  | [], [], _ => trivial
  | _ :: _, _ :: _, ⟨h1, h2⟩ => ⟨h1.mono h, RepLs.mono h h2⟩
  | [], _ :: _, hr => hr
  | _ :: _, [], hr => hr

theorem RepD.mono {β β' : Nat → Option Nat} {own : Nat → Prop} {w w' : World} (h : Step β β' w w') {d : D} {v : Value} (hr : RepD β own w d v) : RepD β' own w' d v := by
  cases d with
  | tup l => obtain ⟨vs, e1, e2⟩ := hr; exact ⟨vs, e1, e2.mono h⟩
  | s x => exact RepS.mono h hr
  | agg l => exact Rep1.mono (d := .agg l) h hr

/-- names that stand for given blocks: one after the other from the lent one's on; none -/
def pinB (b : Nat) : Nat → Option Nat := fun n => some (b + (n - lentName))
def noPin : Nat → Option Nat := fun _ => none
/-- where a run begins: the world, the blocks that are lent to it, the deferred calls that are there -/
structure Base where
  w : World
  X : Nat → Prop
  dl : List Deferred
  lb : Nat → Option Nat

abbrev Base.heap (b : Base) : Array Obj := b.w.heap

/-- what was there has stayed, but for what was lent -/
structure Kept (w0 : Base) (w : World) : Prop where
  os : w.os = w0.w.os
  tape : w.tape = w0.w.tape
  output : w.output = w0.w.output
  size : w0.heap.size ≤ w.heap.size
  block : ∀ k, k < w0.heap.size → ¬ w0.X k → w.heap[k]? = w0.heap[k]?

theorem Kept.trans {w0 : Base} {w w' : World} (h : Kept w0 w) (k : Below w.heap.size w w') : Kept w0 w' :=
  ⟨k.os.trans h.os, k.tape.trans h.tape, k.output.trans h.output, Nat.le_trans h.size k.size, fun b hb hx => (k.block b (Nat.lt_of_lt_of_le hb h.size)).trans (h.block b hb hx)⟩

/-- cells that may lie in memory -/
def flats (l : List SC) : Bool := l.all SC.flat

structure Rel (w0 : Base) (N : Nat) (s : St) (β : Nat → Option Nat) (a : Act) (w : World) : Prop where
  sz : a.tmps.size = N
  tm : ∀ t d, s.t t = some d → ∃ v, a.tmps[t]? = some v ∧ RepD β (fun b => w0.heap.size ≤ b) w d v
  mem : ∀ n blk, s.m n = some blk → ∃ b cs ty, β n = some b ∧ w.heap[b]? = some (.cells ⟨cs⟩ ty (0, 0)) ∧
    RepL β (fun b => w0.heap.size ≤ b) w blk.cells cs ∧ flats blk.cells = true
  dom : ∀ n, s.m n = none → β n = none
  inj : ∀ n n' b, β n = some b → β n' = some b → n = n'
  new : ∀ n b, β n = some b → (w0.heap.size ≤ b ∨ w0.X b) ∧ b < w.heap.size
  bel : Kept w0 w
  dfr : a.defers = w0.dl
  lnt : ∀ n b, lentName ≤ n → w0.lb n = some b → ∀ b', β n = some b' → b' = b

theorem Step.refl (β : Nat → Option Nat) (w : World) : Step β β w w := ⟨fun _ _ _ _ _ h => h, Nat.le_refl _, fun _ _ h => h, fun _ _ h => h⟩

/-- a call that leaves all that was there -/
theorem Step.below {β : Nat → Option Nat} {w w' : World} (h : Below w.heap.size w w') : Step β β w w' :=
  ⟨fun b _ _ hb _ hv => (World.cell?_of_block (w := w) (h.block b hb)).trans hv, h.size, fun _ _ h => h, fun _ _ h => h⟩

theorem Rel.below {w0 : Base} {N : Nat} {s : St} {β : Nat → Option Nat} {a : Act} {w w' : World} (h : Rel w0 N s β a w) (hb : Below w.heap.size w w') : Rel w0 N s β a w' where
  sz := h.sz
  tm t d hd := let ⟨v, h1, h2⟩ := h.tm t d hd; ⟨v, h1, h2.mono (Step.below hb)⟩
  mem n blk hn := let ⟨b, cs, ty, h1, h2, h3, h4⟩ := h.mem n blk hn; ⟨b, cs, ty, h1, by rw [hb.block b (h.new n b h1).2]; exact h2, h3.mono (Step.below hb), h4⟩
  dom := h.dom
  inj := h.inj
  new n b hn := ⟨(h.new n b hn).1, Nat.lt_of_lt_of_le (h.new n b hn).2 hb.size⟩
  bel := h.bel.trans hb
  dfr := h.dfr
  lnt := h.lnt

/-- a new name for a new block -/
def updB (β : Nat → Option Nat) (n b : Nat) : Nat → Option Nat := fun u => if u = n then some b else β u

theorem beq_false {u n : Nat} (h : ¬ u = n) : Nat.beq u n = false := by
  rw [Bool.eq_false_iff]; intro e; exact h (Nat.eq_of_beq_eq_true e)

theorem updM_at (f : Nat → Option Blk) (n : Nat) (d : Blk) (u : Nat) : updM f n d u = if u = n then some d else f u := by
  unfold updM
  by_cases h : u = n
  · subst h; simp
  · rw [if_neg h]
    rw [beq_false h]

theorem updT_at (f : Nat → Option D) (n : Nat) (d : D) (u : Nat) : updT f n d u = if u = n then some d else f u := by
  unfold updT
  by_cases h : u = n
  · subst h; simp
  · rw [if_neg h]
    rw [beq_false h]

theorem Step.alloc {w0 : Base} {N : Nat} {s : St} {β : Nat → Option Nat} {a : Act} {w : World} (h : Rel w0 N s β a w) {n : Nat} (hn : s.m n = none) (o : Obj) :
    Step β (updB β n w.heap.size) w (w.alloc o) where
  cel b o' _ hb _ hv := (World.cell?_of_block (w := w) (Below.heap_alloc _ _ _ hb)).trans hv
  size := by simp
  ext m b hm := by
    unfold updB
    by_cases e : m = n
    · subst e; rw [h.dom _ hn] at hm; cases hm
    · rw [if_neg e]; exact hm
  far b hb hf m := by
    unfold updB
    split
    · intro e; cases e; omega
    · exact hf m

theorem Rel.alloc {w0 : Base} {N : Nat} {s : St} {β : Nat → Option Nat} {a : Act} {w : World} (h : Rel w0 N s β a w) {n : Nat} (hln : ¬ lentName ≤ n) (hn : s.m n = none) {blk : Blk} {cs : List Value} {ty : TypeId}
    (hc : RepL β (fun b => w0.heap.size ≤ b) w blk.cells cs) (hf : flats blk.cells = true) :
    Rel w0 N { s with m := updM s.m n blk } (updB β n w.heap.size) a (w.alloc (.cells ⟨cs⟩ ty)) where
  sz := h.sz
  tm t d hd := let ⟨v, h1, h2⟩ := h.tm t d hd; ⟨v, h1, h2.mono (Step.alloc h hn _)⟩
  mem m bk hm := by
    simp only [updM_at] at hm
    unfold updB
    by_cases e : m = n
    · subst e
      simp only [if_true, Option.some.injEq] at hm ⊢
      subst hm
      exact ⟨_, cs, ty, rfl, heap_alloc_new _ _, hc.mono (Step.alloc h hn _), hf⟩
    · simp only [if_neg e] at hm ⊢
      obtain ⟨b, cs', ty', h1, h2, h3, h4⟩ := h.mem m bk hm
      exact ⟨b, cs', ty', h1, by rw [Below.heap_alloc _ _ _ (h.new m b h1).2]; exact h2, h3.mono (Step.alloc h hn _), h4⟩
  dom m hm := by
    simp only [updM_at] at hm
    unfold updB
    by_cases e : m = n
    · subst e; simp at hm
    · simp only [if_neg e] at hm ⊢; exact h.dom m hm
  inj m m' b h1 h2 := by
    unfold updB at h1 h2
    split at h1 <;> split at h2
    · rename_i e1 e2; rw [e1, e2]
    · cases h1; have := (h.new _ _ h2).2; omega
    · cases h2; have := (h.new _ _ h1).2; omega
    · exact h.inj _ _ _ h1 h2
  new m b hm := by
    unfold updB at hm
    split at hm
    · cases hm; exact ⟨.inl h.bel.size, by simp⟩
    · have := h.new m b hm; exact ⟨this.1, by simp; omega⟩
  bel := h.bel.trans ((Below.refl _ _).alloc (Nat.le_refl _) _)
  dfr := h.dfr
  lnt n' b hn' hb b' h' := by
    unfold updB at h'
    split at h'
    · rename_i e
      omega
    · exact h.lnt n' b hn' hb b' h'

theorem Rel.put {w0 : Base} {N : Nat} {s s' : St} {β : Nat → Option Nat} {a : Act} {w : World} (h : Rel w0 N s β a w) {c : Cfg} (hN : c.n = N) {dst : Option Nat} {d : D} {v : Value}
    (hp : putD c s dst d = some s') (hv : RepD β (fun b => w0.heap.size ≤ b) w d v) : Rel w0 N s' β (a.put dst v) w := by
  cases dst with
  | none => simp only [putD, Option.some.injEq] at hp; subst hp; exact h
  | some t =>
    simp only [putD] at hp
    split at hp
    · rename_i hlt
      simp only [Option.some.injEq] at hp
      subst hp
      have hlt' : t < a.tmps.size := by rw [h.sz, ← hN]; simp only [Cfg.okDst, Bool.and_eq_true, Nat.blt_eq] at hlt; exact hlt.1
      refine { h with sz := by simpa [Act.put] using h.sz, tm := fun u e hu => ?_ }
      simp only [updT_at] at hu
      by_cases e1 : u = t
      · subst e1
        simp only [if_true, Option.some.injEq] at hu
        subst hu
        exact ⟨v, by simp [Act.put, hlt'], hv⟩
      · simp only [if_neg e1] at hu
        obtain ⟨v', h1, h2⟩ := h.tm u e hu
        refine ⟨v', ?_, h2⟩
        simp only [Act.put]
        rw [Array.getElem?_setIfInBounds_ne (by omega)]
        exact h1
    · cases hp
section
variable {w : World} {β : Nat → Option Nat}
theorem RepS.restrict {own : Nat → Prop} {β' : Nat → Option Nat} (h1 : ∀ n b, β' n = some b → β n = some b) {x : SC} (h2 : ∀ n ∈ x.names, β' n = β n) {v : Value} (h : RepS β own w x v) : RepS β' own w x v := by
  have far : ∀ b, (∀ n, β n ≠ some b) → ∀ n, β' n ≠ some b := fun b hb n e => hb n (h1 n b e)
  cases x <;> simp only [RepS] at h ⊢
  case bool | int | byte | str | fn | nilp => exact h
  case exts l o =>
    obtain ⟨a, cap, e1, e2, e3⟩ := h
    refine ⟨a, cap, e1, e2, e3.imp id ?_⟩
    rintro ⟨b, off, f1, f2, ⟨f3, f4⟩, f5⟩
    exact ⟨b, off, f1, f2, ⟨far b f3, f4⟩, f5⟩
  case strs l | ints l =>
    obtain ⟨a, cap, e1, e2, e3⟩ := h
    refine ⟨a, cap, e1, e2, e3.imp id ?_⟩
    rintro ⟨b, off, f1, f2, f3, f5⟩
    exact ⟨b, off, f1, f2, far b f3, f5⟩
  case ptr n off => obtain ⟨b, e1, e2⟩ := h; exact ⟨b, by rw [h2 n (by simp [SC.names])]; exact e1, e2⟩
  case lsl n off len cap => obtain ⟨b, e1, e2⟩ := h; exact ⟨b, by rw [h2 n (by simp [SC.names])]; exact e1, e2⟩
  case eptr kd bd off => obtain ⟨b, o, e1, e2, e3, e4⟩ := h; exact ⟨b, o, e1, e2, far b e3, e4⟩
  case sptr x => obtain ⟨b, o, e1, e2, e3, e4⟩ := h; exact ⟨b, o, e1, e2, far b e3, e4⟩
  case iptr x => obtain ⟨b, o, e1, e2, e3, e4⟩ := h; exact ⟨b, o, e1, e2, far b e3, e4⟩

theorem RepL.restrict {own : Nat → Prop} {β' : Nat → Option Nat} (h1 : ∀ n b, β' n = some b → β n = some b) : ∀ {l : List SC} {vs : List Value}, (∀ x ∈ l, ∀ n ∈ x.names, β' n = β n) → RepL β own w l vs → RepL β' own w l vs
  | [], [], _, _ => trivial
  | x :: l, v :: vs, h2, h => ⟨h.1.restrict h1 (h2 x (.head _)), RepL.restrict h1 (fun y hy => h2 y (.tail _ hy)) h.2⟩
  | [], _ :: _, _, h => h.elim
  | _ :: _, [], _, h => h.elim

end
end Go.Adit

namespace Go.Adit
open Go.RowKit

/-- what the program's table of types must say -/
def TyOK (P : Program) (t : Nat) : Ty → Prop
  | .int k => P.underlying t = some (.int k) ∧ (P.info? t).map (·.size) = some 1
  | .bool => P.underlying t = some .bool ∧ (P.info? t).map (·.size) = some 1
  | .str => P.underlying t = some .string ∧ (P.info? t).map (·.size) = some 1
  | .struct fs n => ∃ Fs, P.underlying t = some (.struct Fs) ∧ Fs.toList.map (fun f => (f.offset, f.type)) = fs ∧ (P.info? t).map (·.size) = some n
  | .arr n e m => P.underlying t = some (.array n e) ∧ (P.info? t).map (·.size) = some m
  | .slice e => P.underlying t = some (.slice e) ∧ (P.info? t).map (·.size) = some 1
  | .ptr e => P.underlying t = some (.pointer e) ∧ (P.info? t).map (·.size) = some 1
  | .other => True

/-- the value of an error that is panicked with -/
def errChain (n : Int) : List PanicEntry := [{ v := .iface 31 (.int .i64 n), recovered := false }]

def HasBody (P : Program) (f : FuncId) : Prop := ∃ fn, P.funcs[f]? = some fn ∧ (fn.name == "runtime.NumGoroutine") = false ∧ fn.body.isNone = false

def onlyB (b : Nat) : Nat → Option Nat := fun n => match Nat.beq n lentName with | true => some b | false => none

/-- the contract of a function: it returns what this says, and nothing that was there has turned -/
def Con (P : Program) (f : FuncId) (args : List D) (r : D) : Prop :=
  HasBody P f ∧
  ∀ (w : World) (vs : List Value), RepLs (fun _ => none) (fun _ => True) w args vs →
    Calls P f ⟨vs⟩ w fun e w' => ∃ v, e = .returned v ∧ RepD (fun _ => none) (fun b => w.heap.size ≤ b) w' r v ∧ Below w.heap.size w w'

/-- the same of one that panics with an error -/
def ConDie (P : Program) (f : FuncId) (args : List D) (n : Int) : Prop :=
  HasBody P f ∧
  ∀ (w : World) (vs : List Value), RepLs (fun _ => none) (fun _ => True) w args vs →
    Calls P f ⟨vs⟩ w fun e w' => e = .panicked (errChain n) ∧ Below w.heap.size w w'

/-- the same of one that writes through its first argument -/
def ConM (P : Program) (f : FuncId) (cells : List SC) (args : List D) (r : D) (cells' : List SC) : Prop :=
  HasBody P f ∧
  ∀ (w : World) (b : Nat) (cs : List Value) (ty : TypeId) (vs : List Value), w.heap[b]? = some (.cells ⟨cs⟩ ty (0, 0)) → RepL (onlyB b) (fun _ => True) w cells cs → RepLs (onlyB b) (fun _ => True) w args vs →
    Calls P f ⟨.pointer (some ⟨b, 0, none⟩) :: vs⟩ w fun e w' => ∃ v cs' ty', e = .returned v ∧ RepD (onlyB b) (fun b => w.heap.size ≤ b) w' r v ∧
      w'.heap[b]? = some (.cells ⟨cs'⟩ ty' (0, 0)) ∧ RepL (onlyB b) (fun b => w.heap.size ≤ b) w' cells' cs' ∧ Kept ⟨w, fun k => k = b, [], pinB b⟩ w'

def ConMDie (P : Program) (f : FuncId) (cells : List SC) (args : List D) (n : Int) : Prop :=
  HasBody P f ∧
  ∀ (w : World) (b : Nat) (cs : List Value) (ty : TypeId) (vs : List Value), w.heap[b]? = some (.cells ⟨cs⟩ ty (0, 0)) → RepL (onlyB b) (fun _ => True) w cells cs → RepLs (onlyB b) (fun _ => True) w args vs →
    Calls P f ⟨.pointer (some ⟨b, 0, none⟩) :: vs⟩ w fun e w' => e = .panicked (errChain n) ∧ Kept ⟨w, fun k => k = b, [], pinB b⟩ w'

structure Env (P : Program) (c : Cfg) (z : Zs) : Prop where
  mixed : P.follows .mixedOrders = true
  ty : ∀ t, TyOK P t (c.ty t)
  zero : ∀ t l, zeroCells c z.ext z.strs z.ints 20 t = some l → ∃ i v, P.info? t = some i ∧ i.zero = some v ∧
    (∀ β own w, RepL β own w l v.cells.toList) ∧ flats l = true
  eq : ∀ t l, memN c.eqs t = true → zeroCells c z.ext z.strs z.ints 20 t = some l → ∀ a b v, alike l a = true → alike l b = true → eqCells a b = some v →
    ∀ β own w cs ds, RepL β own w a cs → RepL β own w b ds →
    (∀ op (x y : Operand), (eqGuard op t x y (.agg ⟨cs⟩) (.agg ⟨ds⟩)).run P w = .ok () w) ∧ (Op.equal t (.agg ⟨cs⟩) (.agg ⟨ds⟩)).run P w = .ok v.lb w
  call : ∀ f args r req, c.lent f = none → (∀ b n, c.die f [] args = some (b, n) → b.lb = false) → c.call f args = some (r, req) → (∀ b ∈ req, b = true) → Con P f args r
  callm : ∀ f cells args r cells' req, c.lent f = some cells.length → (∀ b n, c.die f cells args = some (b, n) → b.lb = false) → c.callm f cells args = some (r, cells', req) → (∀ b ∈ req, b = true) → ConM P f cells args r cells'
  die : ∀ f args b n, c.lent f = none → c.die f [] args = some (b, n) → b.lb = true → ConDie P f args n
  diem : ∀ f cells args b n, c.lent f = some cells.length → c.die f cells args = some (b, n) → b.lb = true → ConMDie P f cells args n

section
variable {P : Program} {w0 : Base} {N : Nat} {s : St} {β : Nat → Option Nat} {a : Act} {w : World} {c : Cfg} {z : Zs} {own : Nat → Prop}

theorem RepS.notAgg {x : SC} {v : Value} (h : RepS β own w x v) : v.cells = #[v] := by
  cases x <;> simp only [RepS] at h
  case bool | fn | nilp | byte => subst h; rfl
  case int | str => obtain ⟨rfl, _⟩ := h; rfl
  case exts | strs | ints => obtain ⟨a, cap, rfl, _⟩ := h; rfl
  case ptr => obtain ⟨b, _, rfl⟩ := h; rfl
  case lsl => obtain ⟨b, _, rfl, _⟩ := h; rfl
  case eptr | sptr | iptr => obtain ⟨b, o, rfl, _⟩ := h; rfl

theorem RepS.one {x : SC} {v : Value} (h : RepS β own w x v) : v.oneCell' = true := by
  cases x <;> simp only [RepS] at h
  case bool | fn | nilp | byte => subst h; rfl
  case int | str => obtain ⟨rfl, _⟩ := h; rfl
  case exts | strs | ints => obtain ⟨a, cap, rfl, _⟩ := h; rfl
  case ptr => obtain ⟨b, _, rfl⟩ := h; rfl
  case lsl => obtain ⟨b, _, rfl, _⟩ := h; rfl
  case eptr | sptr | iptr => obtain ⟨b, o, rfl, _⟩ := h; rfl

theorem RepL.one : ∀ {l : List SC} {cs : List Value}, RepL β own w l cs → ∀ v ∈ cs, v.oneCell' = true
  | [], [], _, _, hv => by cases hv
  | _ :: _, _ :: _, ⟨h1, h2⟩, v, hv => by
    rcases List.mem_cons.1 hv with rfl | hv
    · exact h1.one
    · exact RepL.one h2 v hv
  | [], _ :: _, h, _, _ => h.elim
  | _ :: _, [], h, _, _ => h.elim

theorem RepL.length : ∀ {l : List SC} {cs : List Value}, RepL β own w l cs → l.length = cs.length
  | [], [], _ => rfl
  | _ :: _, _ :: _, ⟨_, h2⟩ => by simp [RepL.length h2]
  | [], _ :: _, h => h.elim
  | _ :: _, [], h => h.elim

theorem RepL.get : ∀ {l : List SC} {cs : List Value}, RepL β own w l cs → ∀ {i : Nat} {x : SC}, l[i]? = some x → ∃ v, cs[i]? = some v ∧ RepS β own w x v
  | [], [], _, _, _, h => by simp at h
  | x :: l, v :: cs, ⟨h1, h2⟩, i, y, h => by
    cases i with
    | zero => simp at h; subst h; exact ⟨v, by simp, h1⟩
    | succ i => simp at h; obtain ⟨u, g1, g2⟩ := RepL.get h2 h; exact ⟨u, by simpa using g1, g2⟩
  | [], _ :: _, h, _, _, _ => h.elim
  | _ :: _, [], h, _, _, _ => h.elim

theorem RepL.append : ∀ {l l' : List SC} {cs ds : List Value}, RepL β own w l cs → RepL β own w l' ds → RepL β own w (l ++ l') (cs ++ ds)
  | [], _, [], _, _, h => h
  | _ :: _, _, _ :: _, _, ⟨h1, h2⟩, h => ⟨h1, RepL.append h2 h⟩
  | [], _, _ :: _, _, h, _ => h.elim
  | _ :: _, _, [], _, h, _ => h.elim

theorem RepL.drop : ∀ {l : List SC} {cs : List Value} (n : Nat), RepL β own w l cs → RepL β own w (dropN n l) (cs.drop n)
  | _, _, 0, h => h
  | [], [], _ + 1, _ => trivial
  | _ :: _, _ :: _, n + 1, ⟨_, h2⟩ => by simpa [dropN] using RepL.drop n h2
  | [], _ :: _, _ + 1, h => h.elim
  | _ :: _, [], _ + 1, h => h.elim

theorem RepL.take : ∀ {l r : List SC} {cs : List Value} (n : Nat), RepL β own w l cs → takeN n l = some r → RepL β own w r (cs.take n) ∧ n ≤ cs.length
  | _, _, _, 0, _, h => by simp [takeN] at h; subst h; exact ⟨trivial, Nat.zero_le _⟩
  | [], _, _, _ + 1, _, h => by simp [takeN] at h
  | x :: l, r, v :: cs, n + 1, ⟨h1, h2⟩, h => by
    simp only [takeN, Option.map_eq_some_iff] at h
    obtain ⟨r', hr, rfl⟩ := h
    obtain ⟨g1, g2⟩ := RepL.take n h2 hr
    exact ⟨⟨h1, g1⟩, by simp; omega⟩
  | _ :: _, _, [], _ + 1, h, _ => h.elim

theorem RepL.set : ∀ {l r l' : List SC} {cs ds : List Value} (n : Nat), RepL β own w l cs → RepL β own w r ds → setAt l n r = some l' →
    n + ds.length ≤ cs.length ∧ RepL β own w l' (cs.take n ++ (ds ++ cs.drop (n + ds.length)))
  | l, [], l', cs, [], 0, h, _, hs => by simp [setAt] at hs; subst hs; simpa using h
  | x :: l, y :: r, l', v :: cs, u :: ds, 0, ⟨_, h2⟩, ⟨g1, g2⟩, hs => by
    simp only [setAt, Option.map_eq_some_iff] at hs
    obtain ⟨l1, h1, rfl⟩ := hs
    obtain ⟨k1, k2⟩ := RepL.set 0 h2 g2 h1
    refine ⟨by simp at k1 ⊢; omega, ?_⟩
    simpa [RepL] using ⟨g1, by simpa using k2⟩
  | x :: l, r, l', v :: cs, ds, n + 1, ⟨h1, h2⟩, hr, hs => by
    have hs' : (setAt l n r).map (x :: ·) = some l' := by cases r <;> simpa [setAt] using hs
    simp only [Option.map_eq_some_iff] at hs'
    obtain ⟨l1, e1, rfl⟩ := hs'
    obtain ⟨k1, k2⟩ := RepL.set n h2 hr e1
    refine ⟨by simp; omega, ?_⟩
    have : n + 1 + ds.length = (n + ds.length) + 1 := by omega
    rw [this]
    exact ⟨h1, by simpa using k2⟩
  | [], _ :: _, _, _, _, 0, _, _, hs => by simp [setAt] at hs
  | [], r, _, _, _, n + 1, _, _, hs => by cases r <;> simp [setAt] at hs
  | _, [], _, _, _ :: _, 0, _, h, _ => h.elim
  | _, _ :: _, _, _, [], 0, _, h, _ => h.elim
  | _ :: _, _, _, [], _, n, h, _, _ => h.elim

theorem setAt_flats : ∀ {l r l' : List SC} (n : Nat), flats l = true → flats r = true → setAt l n r = some l' → flats l' = true
  | l, [], l', 0, h, _, hs => by simp [setAt] at hs; subst hs; exact h
  | x :: l, y :: r, l', 0, h, g, hs => by
    simp only [setAt, Option.map_eq_some_iff] at hs
    obtain ⟨l1, h1, rfl⟩ := hs
    simp only [flats, List.all_cons, Bool.and_eq_true] at h g ⊢
    exact ⟨g.1, setAt_flats 0 h.2 g.2 h1⟩
  | x :: l, r, l', n + 1, h, g, hs => by
    have hs' : (setAt l n r).map (x :: ·) = some l' := by cases r <;> simpa [setAt] using hs
    simp only [Option.map_eq_some_iff] at hs'
    obtain ⟨l1, e1, rfl⟩ := hs'
    simp only [flats, List.all_cons, Bool.and_eq_true] at h ⊢
    exact ⟨h.1, setAt_flats n h.2 g e1⟩
  | [], _ :: _, _, 0, _, _, hs => by simp [setAt] at hs
  | [], r, _, n + 1, _, _, hs => by cases r <;> simp [setAt] at hs

theorem Rep1.toD {d : D} {v : Value} (h : Rep1 β own w d v) : RepD β own w d v := by
  cases d with
  | s x => exact h
  | agg l => exact h
  | tup l => exact h.elim

theorem asI_rep {x : SC} {v : Value} {k : IntKind} {n : IV} (h : RepS β own w x v) (ha : asI x = some (k, n)) : v = .int k n.li ∧ inR k n.li := by
  cases x <;> simp [asI] at ha
  case int k' n' => obtain ⟨rfl, rfl⟩ := ha; exact h
  case byte y =>
    obtain ⟨rfl, rfl⟩ := ha
    refine ⟨h, ?_⟩
    have := y.toNat_lt
    simp only [inR, IV.li, liOfByte, IntKind.min, IntKind.max, IntKind.signed, IntKind.bits]
    simp
    omega

theorem ofValue_rep {v : Value} {x : SC} (h : ofValue v = some x) : RepS β own w x v := by
  cases v <;> simp [ofValue] at h
  case bool b => subst h; rfl
  case int k n => obtain ⟨⟨h1, h2⟩, rfl⟩ := h; exact ⟨rfl, h1, h2⟩
  case string b =>
    obtain ⟨h1, rfl⟩ := h
    refine ⟨rfl, ?_⟩
    have h2 : (lsLit (bytesOf b)).length ≤ 65536 := h1
    unfold imax
    omega
  case pointer a =>
    cases a with
    | none => simp at h; subst h; rfl
    | some a => simp at h

theorem ev_rep (hR : Rel w0 N s β a w) {x : Operand} {d : D} (h : ev s x = some d) : RepD β (fun b => w0.heap.size ≤ b) w d (a.eval x) := by
  cases x with
  | tmp t =>
    obtain ⟨v, h1, h2⟩ := hR.tm t d h
    have : a.tmps.getD t undef = v := by simp [Array.getD_eq_getD_getElem?, h1]
    simpa [Act.eval, this] using h2
  | const v =>
    simp only [ev, Option.map_eq_some_iff] at h
    obtain ⟨x, h1, rfl⟩ := h
    exact ofValue_rep h1
  | func f => simp only [ev, Option.some.injEq] at h; subst h; rfl
  | global g => simp [ev] at h
end
end Go.Adit

namespace Go.Adit
open Go.RowKit

/-- the operation's run yields a value (or nothing: then undef) of which this holds -/
def Does (P : Program) (o : Oper) (a : Act) (w : World) (R : Value → World → Prop) : Prop :=
  ∀ (K : Act → World → Prop) (Q : Exit → Act → World → Prop), (∀ v w', R v w' → K (a.put o.dst v) w') → o.wp P a w K Q

theorem Does.run {P : Program} {o : Oper} {a : Act} {w w' : World} {R : Value → World → Prop} {v : Value} (h : (execOp a.eval o).run P w = .ok (.value v) w') (hr : R v w') : Does P o a w R := by
  intro K Q hK
  unfold Oper.wp
  rw [h]
  exact hK v w' hr

theorem Does.skip {P : Program} {o : Oper} {a : Act} {w w' : World} {R : Value → World → Prop} (h : (execOp a.eval o).run P w = .ok .skip w') (hr : R undef w') : Does P o a w R := by
  intro K Q hK
  unfold Oper.wp
  rw [h]
  exact hK _ w' hr

section
variable {P : Program} {w0 : Base} {N : Nat} {s : St} {β : Nat → Option Nat} {a : Act} {w : World} {c : Cfg} {z : Zs} {own : Nat → Prop}

/-- what is to be shown of an operation -/
def Sound (P : Program) (w0 : Base) (N : Nat) (s : St) (a : Act) (w : World) (o : Oper) (e : Eff) : Prop :=
  ∀ s1, putB o s e.blk = some s1 → Does P o a w fun v w' => ∃ β', Rel w0 N s1 β' a w' ∧ RepD β' (fun b => w0.heap.size ≤ b) w' e.val v

theorem Sound.pure (hR : Rel w0 N s β a w) {o : Oper} {d : D} {l : List Bool} {v : Value} (h : (execOp a.eval o).run P w = .ok (.value v) w) (hv : RepD β (fun b => w0.heap.size ≤ b) w d v) :
    Sound P w0 N s a w o ⟨d, none, l⟩ := by
  intro s1 h1
  simp only [putB, Option.some.injEq] at h1
  subst h1
  exact Does.run h ⟨β, hR, hv⟩

/-- a value that has been read out -/
theorem Sound.bindPure (hR : Rel w0 N s β a w) {o : Oper} {x : Option D} {e : Eff} (he : x.bind pureV = some e)
    (h : ∀ d, x = some d → ∃ v, (execOp a.eval o).run P w = .ok (.value v) w ∧ RepD β (fun b => w0.heap.size ≤ b) w d v) : Sound P w0 N s a w o e := by
  cases x with
  | none => simp at he
  | some d =>
    simp only [Option.bind_some, pureV, Option.some.injEq] at he
    subst he
    obtain ⟨v, h1, h2⟩ := h d rfl
    exact Sound.pure hR h1 h2

theorem sound_move (hR : Rel w0 N s β a w) {o : Oper} {x : Operand} (ho : o.op = .move x ∨ o.op = .assign x) {e : Eff} (he : (ev s x).bind pureV = some e) : Sound P w0 N s a w o e :=
  Sound.bindPure hR he fun d hd => ⟨a.eval x, by rcases ho with ho | ho <;> simp [execOp, ho], ev_rep hR hd⟩

theorem sound_pick (hR : Rel w0 N s β a w) {o : Oper} {k x y : Operand} (ho : o.op = .pick k x y) {b : Bool} (hk : ev s k = some (.s (.bool (.lit b)))) {e : Eff}
    (he : (ev s (if b then x else y)).bind pureV = some e) : Sound P w0 N s a w o e :=
  Sound.bindPure hR he fun d hd => ⟨a.eval (if b then x else y), by
    have h1 : a.eval k = .bool b := ev_rep hR hk
    cases b <;> simp [execOp, ho, h1, asBool], ev_rep hR hd⟩

theorem run_zeroValue {t : TypeId} {i : TypeInfo} {v : Value} (h1 : P.info? t = some i) (h2 : i.zero = some v) : (zeroValue t).run P w = .ok v w := by
  simp [zeroValue, typeInfo, h1, h2]

theorem putB_new {o : Oper} (ho : isWr o.op = false) {d : Nat} {b : Blk} : putB o s (some (d, b)) = match s.m d, Nat.ble lentName d with
    | none, false => some { s with m := updM s.m d b }
    | _, _ => none := by
  simp only [putB, ho]

theorem Sound.new (hR : Rel w0 N s β a w) {o : Oper} {d : Nat} (ho : isWr o.op = false) {blk : Blk} {l : List Bool} {x : D} {cs : List Value} {ty : TypeId} {v : Value}
    (hc : RepL β (fun b => w0.heap.size ≤ b) w blk.cells cs) (hf : flats blk.cells = true)
    (h : (execOp a.eval o).run P w = .ok (.value v) (w.alloc (.cells ⟨cs⟩ ty)))
    (hv : ∀ β', β' d = some w.heap.size → RepD β' (fun b => w0.heap.size ≤ b) (w.alloc (.cells ⟨cs⟩ ty)) x v) : Sound P w0 N s a w o ⟨x, some (d, blk), l⟩ := by
  intro s1 h1
  have h2 : s.m d = none ∧ ¬ lentName ≤ d ∧ s1 = { s with m := updM s.m d blk } := by
    rw [putB_new ho] at h1
    split at h1
    · rename_i hm hn
      simp only [Option.some.injEq] at h1
      exact ⟨hm, fun e => (by rw [Nat.ble_eq_true_of_le e] at hn; cases hn), h1.symm⟩
    · cases h1
  obtain ⟨h3, h4, rfl⟩ := h2
  exact Does.run h ⟨_, hR.alloc h4 h3 hc hf, hv _ (by simp [updB])⟩

theorem zero_rep (E : Env P c z) {t : TypeId} {l : List SC} (h : zeroCells c z.ext z.strs z.ints 20 t = some l) (β : Nat → Option Nat) (own : Nat → Prop) (w : World) :
    ∃ i v, P.info? t = some i ∧ i.zero = some v ∧ RepL β own w l v.cells.toList ∧ flats l = true := by
  obtain ⟨i, v, h1, h2, h3, h4⟩ := E.zero t l h
  exact ⟨i, v, h1, h2, h3 β own w, h4⟩

theorem sound_alloc (E : Env P c z) (hR : Rel w0 N s β a w) {o : Oper} {t : TypeId} (ho : o.op = .alloc t) {d : Nat} {l : List SC} (hz : zeroCells c z.ext z.strs z.ints 20 t = some l) :
    Sound P w0 N s a w o ⟨.s (.ptr d 0), some (d, ⟨l, t⟩), []⟩ := by
  obtain ⟨i, v, h1, h2, h3, h4⟩ := zero_rep E hz β (fun b => w0.heap.size ≤ b) w
  refine Sound.new hR (by rw [ho]; rfl) (ty := t) h3 h4 (v := .pointer (some ⟨w.heap.size, 0, none⟩)) ?_ ?_
  · simp [execOp, ho, Instr.alloc, run_zeroValue h1 h2, newVar, newRow]
  · intro β' hb; exact ⟨_, hb, rfl⟩

theorem cellsOf_rep {d : D} {v : Value} {l : List SC} (h : RepD β own w d v) (hc : cellsOf d = some l) : RepL β own w l v.cells.toList := by
  cases d with
  | s x => simp only [cellsOf, Option.some.injEq] at hc; subst hc; rw [RepS.notAgg h]; exact ⟨h, trivial⟩
  | agg l' => simp only [cellsOf, Option.some.injEq] at hc; subst hc; obtain ⟨cs, rfl, h2⟩ := h; exact h2
  | tup l' => simp [cellsOf] at hc

theorem sound_box (hR : Rel w0 N s β a w) {o : Oper} {t : TypeId} {x : Operand} (ho : o.op = .box t x) {d : Nat} {l : List SC} (hl : (ev s x).bind cellsOf = some l) (hf : l.all SC.flat = true) :
    Sound P w0 N s a w o ⟨.s (.ptr d 0), some (d, ⟨l, t⟩), []⟩ := by
  cases hx : ev s x with
  | none => simp [hx] at hl
  | some y =>
    simp only [hx, Option.bind_some] at hl
    have h1 := cellsOf_rep (ev_rep hR hx) hl
    refine Sound.new hR (by rw [ho]; rfl) (ty := t) h1 hf (v := .pointer (some ⟨w.heap.size, 0, none⟩)) ?_ ?_
    · simp [execOp, ho, Instr.box, newVar, newRow]
    · intro β' hb; exact ⟨_, hb, rfl⟩
end
end Go.Adit

namespace Go.Adit
open Go.RowKit

theorem lbLe_iff (a b : Int) : lbLe a b = true ↔ a ≤ b := by simp [lbLe]
theorem lbLt_iff (a b : Int) : lbLt a b = true ↔ a < b := by simp [lbLt]

theorem IV.li_sym (x : Int) : (IV.sym x).li = x := rfl

theorem inR_wrap (k : IntKind) (n : Int) : inR k (k.wrap n) := by
  cases k <;> simp only [inR, IntKind.wrap, IntKind.min, IntKind.max, IntKind.signed, IntKind.bits] <;> simp <;> (try split) <;> omega

theorem inR_zero_between {k : IntKind} {x y : Int} (hx : inR k x) (h : (0 ≤ y ∧ y ≤ x) ∨ (x ≤ y ∧ y ≤ 0)) : inR k y := by
  cases k <;> simp only [inR, IntKind.min, IntKind.max, IntKind.signed, IntKind.bits] at hx ⊢ <;> simp at hx ⊢ <;> omega

theorem inR_tmod {k : IntKind} {x : Int} (y : Int) (hx : inR k x) : inR k (x.tmod y) := by
  refine inR_zero_between hx ?_
  have h2 : ((x.tmod y).natAbs) ≤ x.natAbs := by rw [Int.natAbs_tmod]; exact Nat.mod_le _ _
  by_cases h : 0 ≤ x
  · have h1 : 0 ≤ x.tmod y := Int.tmod_nonneg y h
    omega
  · have h1 : 0 ≤ (-x).tmod y := Int.tmod_nonneg y (by omega)
    rw [Int.neg_tmod] at h1
    omega

theorem inR_fdiv {k : IntKind} {x : Int} (n : Nat) (hx : inR k x) : inR k (x.fdiv (2 ^ n)) := by
  have hp : (1 : Int) ≤ 2 ^ n := by
    have : (0 : Int) < 2 ^ n := Int.pow_pos (by omega)
    omega
  refine inR_zero_between hx ?_
  rw [Int.fdiv_eq_ediv_of_nonneg x (by omega)]
  by_cases h : 0 ≤ x
  · exact .inl ⟨Int.ediv_nonneg h (by omega), Int.ediv_le_self _ h⟩
  · refine .inr ⟨?_, ?_⟩
    · rw [Int.le_ediv_iff_mul_le (by omega)]
      have : x * (2 ^ n) ≤ x * 1 := Int.mul_le_mul_of_nonpos_left (by omega) hp
      omega
    · have : x / 2 ^ n ≤ 0 / 2 ^ n := Int.ediv_le_ediv (by omega) (by omega)
      simpa using this

section
variable {P : Program} {w : World}

theorem isShift_of {op : BinOp} (h : isShift op = true) : op = .shl ∨ op = .shr := by cases op <;> simp_all [isShift]

theorem run_arith {op : BinOp} {k k' : IntKind} {m n r : IV} {req : List Bool} {t : TypeId} (ha : arith op k m n = some (r, req)) (hq : ∀ b ∈ req, b = true) (hm : inR k m.li)
    (hk : isShift op = true ∨ k = k') : (binOp op t (.int k m.li) (.int k' n.li)).run P w = .ok (.int k r.li) w ∧ inR k r.li := by
  have key : ∀ (f : Option (IV × List Bool)), f = arithSym op k m n → (f.map fun r => (r.1, arithReq op n r.2)) = some (r, req) →
      (binOp op t (.int k m.li) (.int k' n.li)).run P w = .ok (.int k r.li) w ∧ inR k r.li := by
    intro f hf h
    subst hf
    cases op <;> simp [arithSym] at h <;> obtain ⟨rfl, rfl⟩ := h <;> simp [isShift] at hk <;> try subst hk
    case add | sub | mul | and | or | xor | andNot => exact ⟨by simp [binOp, Op.intArith, Op.intBits, IV.li_sym, liAdd, liSub, liMul, liAnd, liOr, liXor, liAndNot], inR_wrap _ _⟩
    case quo =>
      have h0 : n.li ≠ 0 := by
        cases n with
        | lit y =>
          by_cases e : y = 0
          · subst e; have := hq (lbNot (lbEqI (IV.lit 0).li (liLit 0))) (by simp [arithReq]); simp [lbNot, lbEqI, IV.li, liLit] at this
          · simpa [IV.li, liLit] using e
        | sym y => have := hq (lbNot (lbEqI y (liLit 0))) (by simp [arithReq, IV.li]); simpa [lbNot, lbEqI, IV.li, liLit] using this
      exact ⟨by simp [binOp, Op.intDiv, h0, IV.li_sym, liQuo], inR_wrap _ _⟩
    case rem =>
      have h0 : n.li ≠ 0 := by
        cases n with
        | lit y =>
          by_cases e : y = 0
          · subst e; have := hq (lbNot (lbEqI (IV.lit 0).li (liLit 0))) (by simp [arithReq]); simp [lbNot, lbEqI, IV.li, liLit] at this
          · simpa [IV.li, liLit] using e
        | sym y => have := hq (lbNot (lbEqI y (liLit 0))) (by simp [arithReq, IV.li]); simpa [lbNot, lbEqI, IV.li, liLit] using this
      exact ⟨by simp [binOp, Op.intDiv, h0, IV.li_sym, liRem], inR_tmod _ hm⟩
    case shl =>
      have h0 : ¬ n.li < 0 := by
        cases n with
        | lit y =>
          by_cases e : y < 0
          · have h1 : (0 : Int) ≤ y := (lbLe_iff _ _).1 (hq (lbLe (liLit 0) (IV.lit y).li) (by simp [arithReq, e])); omega
          · simpa [IV.li, liLit] using e
        | sym y => have h1 : (0 : Int) ≤ y := (lbLe_iff _ _).1 (hq (lbLe (liLit 0) y) (by simp [arithReq, IV.li])); simp only [IV.li]; exact fun h2 => absurd h1 (Int.not_le.2 h2)
      exact ⟨by simp [binOp, Op.shift, h0, IV.li_sym, liShl], inR_wrap _ _⟩
    case shr =>
      have h0 : ¬ n.li < 0 := by
        cases n with
        | lit y =>
          by_cases e : y < 0
          · have h1 : (0 : Int) ≤ y := (lbLe_iff _ _).1 (hq (lbLe (liLit 0) (IV.lit y).li) (by simp [arithReq, e])); omega
          · simpa [IV.li, liLit] using e
        | sym y => have h1 : (0 : Int) ≤ y := (lbLe_iff _ _).1 (hq (lbLe (liLit 0) y) (by simp [arithReq, IV.li])); simp only [IV.li]; exact fun h2 => absurd h1 (Int.not_le.2 h2)
      exact ⟨by simp [binOp, Op.shift, h0, IV.li_sym, liShr], inR_fdiv _ hm⟩
  unfold arith at ha
  split at ha
  · rename_i x y
    split at ha
    · rename_i v hv
      simp only [Option.some.injEq, Prod.mk.injEq] at ha
      obtain ⟨rfl, rfl⟩ := ha
      simp only [IV.li, liLit] at hm ⊢
      cases op <;> simp [arithLit] at hv <;> simp [isShift] at hk <;> try subst hk
      case add | sub | mul => subst hv; exact ⟨by simp [binOp, Op.intArith], inR_wrap _ _⟩
      case quo => obtain ⟨h0, rfl⟩ := hv; exact ⟨by simp [binOp, Op.intDiv, h0], inR_wrap _ _⟩
      case rem => obtain ⟨h0, rfl⟩ := hv; exact ⟨by simp [binOp, Op.intDiv, h0], inR_tmod _ hm⟩
      case shl => obtain ⟨h0, rfl⟩ := hv; exact ⟨by simp [binOp, Op.shift, show ¬ y < 0 by omega], inR_wrap _ _⟩
      case shr => obtain ⟨h0, rfl⟩ := hv; exact ⟨by simp [binOp, Op.shift, show ¬ y < 0 by omega], inR_fdiv _ hm⟩
    · exact key _ rfl ha
  · exact key _ rfl ha

theorem run_cmp {op : BinOp} {k : IntKind} {m n : IV} {t : TypeId} (h : isCmp op = true) :
    (binOp op t (.int k m.li) (.int k n.li)).run P w = .ok (.bool (cmpI op m n).lb) w := by
  have key : (BV.sym (cmpSym op m.li n.li)).lb = (cmpI op m n).lb := by
    cases m <;> cases n <;> rfl
  rw [← key]
  cases op <;> simp [isCmp] at h <;> simp [binOp, Op.intCmp, cmpSym, BV.lb, lbEqI, lbNot, lbLt, lbLe, bne]

theorem bvEq_lb (a b : BV) : (bvEq a b).lb = (a.lb == b.lb) := by cases a <;> cases b <;> rfl
theorem bvNot_lb (a : BV) : (bvNot a).lb = !a.lb := by cases a <;> rfl
theorem bvAnd_lb (a b : BV) : (bvAnd a b).lb = (a.lb && b.lb) := by
  cases a with
  | lit x => cases x <;> simp [bvAnd, BV.lb, lbLit]
  | sym x => cases b with
    | lit y => cases y <;> simp [bvAnd, BV.lb, lbLit, lbAnd]
    | sym y => rfl
end
end Go.Adit

namespace Go.Adit
open Go.RowKit

section
variable {P : Program} {w0 : Base} {N : Nat} {s : St} {β : Nat → Option Nat} {a : Act} {w : World} {c : Cfg} {z : Zs} {own : Nat → Prop}

theorem Sound.pureS (hR : Rel w0 N s β a w) {o : Oper} {x : SC} {e : Eff} {v : Value} (he : pureS x = some e) (h : (execOp a.eval o).run P w = .ok (.value v) w)
    (hv : RepS β (fun b => w0.heap.size ≤ b) w x v) : Sound P w0 N s a w o e := by
  simp only [Go.Adit.pureS, Option.some.injEq] at he
  subst he
  exact Sound.pure hR h hv

theorem eqGuard_scalar {op : BinOp} {t : TypeId} {x y : Operand} {u v : Value} {p q : SC} (h : RepS β own w p u) (_h' : RepS β own w q v) :
    (eqGuard op t x y u v).run P w = .ok () w := by
  cases p <;> simp only [RepS] at h
  case bool | fn | nilp | byte => subst h; cases op <;> rfl
  case int | str => obtain ⟨rfl, _⟩ := h; cases op <;> rfl
  case exts | strs | ints => obtain ⟨a, cap, rfl, _⟩ := h; cases op <;> rfl
  case ptr => obtain ⟨b, _, rfl⟩ := h; cases op <;> rfl
  case lsl => obtain ⟨b, _, rfl, _⟩ := h; cases op <;> rfl
  case eptr | sptr | iptr => obtain ⟨b, o, rfl, _⟩ := h; cases op <;> rfl

theorem exec_binop {o : Oper} {op : BinOp} {t t' : TypeId} {x y : Operand} (ho : o.op = .binOp op t x y t') {r : Value}
    (hg : (eqGuard op t x y (a.eval x) (a.eval y)).run P w = .ok () w) (h : (binOp op t (a.eval x) (a.eval y)).run P w = .ok r w) :
    (execOp a.eval o).run P w = .ok (.value r) w := by
  simp [execOp, ho, hg, h]

theorem bvIf_lb (e : Bool) (v : BV) : (bvIf e v).lb = if e then v.lb else !v.lb := by cases e <;> simp [bvIf, bvNot_lb]

theorem sound_binopI (hR : Rel w0 N s β a w) {o : Oper} {op : BinOp} {t t' : TypeId} {x y : Operand} (ho : o.op = .binOp op t x y t') {k k' : IntKind} {m n : IV}
    (hx : a.eval x = .int k m.li) (hm : inR k m.li) (hy : a.eval y = .int k' n.li) (hg : (eqGuard op t x y (a.eval x) (a.eval y)).run P w = .ok () w) {e : Eff}
    (he : binopI op k k' m n = some e) (hq : ∀ b ∈ e.req, b = true) : Sound P w0 N s a w o e := by
  unfold binopI at he
  split at he
  · rename_i h1
    simp only [Option.bind_eq_some_iff, Option.some.injEq] at he
    obtain ⟨r, h2, rfl⟩ := he
    obtain ⟨g1, g2⟩ := run_arith (P := P) (w := w) (t := t) (k' := k') (r := r.1) (req := r.2) h2 hq hm (.inl h1)
    exact Sound.pure hR (exec_binop ho hg (by rw [hx, hy]; exact g1)) ⟨rfl, g2⟩
  · rename_i h1 h2 h3
    obtain rfl : k = k' := of_decide_eq_true h2
    exact Sound.pureS hR he (exec_binop ho hg (by rw [hx, hy]; exact run_cmp h3)) rfl
  · rename_i h1 h2 h3
    simp only [Option.bind_eq_some_iff, Option.some.injEq] at he
    obtain ⟨r, h4, rfl⟩ := he
    obtain ⟨g1, g2⟩ := run_arith (P := P) (w := w) (t := t) (k' := k') (r := r.1) (req := r.2) h4 hq hm (.inr (of_decide_eq_true h2))
    exact Sound.pure hR (exec_binop ho hg (by rw [hx, hy]; exact g1)) ⟨rfl, g2⟩
  · cases he

theorem isEq_of {op : BinOp} {e : Bool} (h : isEq op = some e) : (op = .eql ∧ e = true) ∨ (op = .neq ∧ e = false) := by
  cases op <;> simp [isEq] at h <;> simp [h]

theorem list_beq_toArray (l r : List UInt8) : ((ByteArray.mk ⟨l⟩).toList == (ByteArray.mk ⟨r⟩).toList) = (l == r) := by
  have h : ∀ l : List UInt8, (ByteArray.mk ⟨l⟩).toList = l := fun l => ByteArray.toList_mk l
  rw [h, h]

theorem sound_binop (E : Env P c z) (hR : Rel w0 N s β a w) {o : Oper} {op : BinOp} {t t' : TypeId} {x y : Operand} (ho : o.op = .binOp op t x y t') {dx dy : D}
    (hx : ev s x = some dx) (hy : ev s y = some dy) {e : Eff} (he : binop c z t op dx dy = some e) (hq : ∀ b ∈ e.req, b = true) : Sound P w0 N s a w o e := by
  have rx := ev_rep hR hx
  have ry := ev_rep hR hy
  unfold binop at he
  split at he
  · -- structs, arrays
    rename_i p q
    obtain ⟨cs, ex, rp⟩ := rx
    obtain ⟨ds, ey, rq⟩ := ry
    split at he
    · rename_i e1 l h1 h2 h3
      split at he
      · rename_i h4
        simp only [Bool.and_eq_true] at h4
        simp only [Option.bind_eq_some_iff] at he
        obtain ⟨v, hv, he⟩ := he
        obtain ⟨g1, g2⟩ := E.eq t l h2 h3 p q v h4.1 h4.2 hv β _ w cs ds rp rq
        have hg : (eqGuard op t x y (a.eval x) (a.eval y)).run P w = .ok () w := by rw [ex, ey]; exact g1 _ _ _
        rcases isEq_of h1 with ⟨rfl, rfl⟩ | ⟨rfl, rfl⟩
        · exact Sound.pureS hR he (exec_binop (r := .bool v.lb) ho hg (by rw [ex, ey]; simp [binOp, g2])) rfl
        · exact Sound.pureS hR he (exec_binop (r := .bool (!v.lb)) ho hg (by rw [ex, ey]; simp [binOp, g2])) (by simp [RepS, bvIf, bvNot_lb])
      · cases he
    · cases he
  · -- strings
    rename_i p q
    have hg := eqGuard_scalar (P := P) (op := op) (t := t) (x := x) (y := y) (β := β) (own := fun b => w0.heap.size ≤ b) (w := w) (p := .str p) (q := .str q) rx ry
    obtain ⟨ex, rp⟩ := rx
    obtain ⟨ey, rq⟩ := ry
    split at he
    · simp only [Option.some.injEq] at he
      subst he
      have h1 : ((p.length : Int) + q.length) ≤ imax := by
        have := hq _ (List.mem_singleton.2 rfl)
        simpa [lbRoom, imax] using this
      refine Sound.pure hR (v := .string ⟨⟨p ++ q⟩⟩) (exec_binop ho hg ?_) ⟨rfl, by simp only [lsCat, List.length_append]; unfold imax at h1 ⊢; omega⟩
      rw [ex, ey]
      have h2 : (ByteArray.mk ⟨p⟩ ++ ByteArray.mk ⟨q⟩ : ByteArray) = ⟨⟨p ++ q⟩⟩ := by
        apply ByteArray.ext
        simp [ByteArray.data_append]
      have h3 : ¬ (((ByteArray.mk ⟨p⟩).size + (ByteArray.mk ⟨q⟩).size : Nat) : Int) > IntKind.i64.max := by
        have e1 : (ByteArray.mk ⟨p⟩).size = p.length := rfl
        have e2 : (ByteArray.mk ⟨q⟩).size = q.length := rfl
        rw [e1, e2]
        simp only [IntKind.max, IntKind.signed, IntKind.bits]
        unfold imax at h1
        simp
        omega
      simp only [binOp, Op.stringOp, h3, if_false, h2]
      rfl
    · rename_i hne
      split at he
      · rename_i e1 h1
        rcases isEq_of h1 with ⟨rfl, rfl⟩ | ⟨rfl, rfl⟩
        · exact Sound.pureS hR he (exec_binop (r := .bool (p == q)) ho hg (by rw [ex, ey]; simp only [binOp, Op.stringOp, list_beq_toArray]; rfl)) rfl
        · exact Sound.pureS hR he (exec_binop (r := .bool (!(p == q))) ho hg (by rw [ex, ey]; simp only [binOp, Op.stringOp, list_beq_toArray]; rfl)) rfl
      · cases he
  · -- bools
    rename_i p q
    have hg := eqGuard_scalar (P := P) (op := op) (t := t) (x := x) (y := y) (β := β) (own := fun b => w0.heap.size ≤ b) (w := w) (p := .bool p) (q := .bool q) rx ry
    have ex : a.eval x = .bool p.lb := rx
    have ey : a.eval y = .bool q.lb := ry
    split at he
    · rename_i e1 h1 h2
      have hty := E.ty t
      rw [h2] at hty
      rcases isEq_of h1 with ⟨rfl, rfl⟩ | ⟨rfl, rfl⟩
      · exact Sound.pureS hR he (exec_binop ho hg (by rw [ex, ey]; exact run_eql_bool w t _ _ hty.1)) (by simp [RepS, bvIf_lb, bvEq_lb])
      · exact Sound.pureS hR he (exec_binop ho hg (by rw [ex, ey]; exact run_neq_bool w t _ _ hty.1)) (by simp [RepS, bvIf_lb, bvEq_lb])
    · cases he
  · -- a pointer and nil
    have hg := eqGuard_scalar (P := P) (op := op) (t := t) (x := x) (y := y) (β := β) (own := fun b => w0.heap.size ≤ b) (w := w) (p := .ptr _ _) (q := .nilp) rx ry
    obtain ⟨b, hb, ex⟩ := rx
    have ey : a.eval y = .pointer none := ry
    split at he
    · rename_i e1 k1 h1 h2
      have hty := E.ty t
      rw [h2] at hty
      rcases isEq_of h1 with ⟨rfl, rfl⟩ | ⟨rfl, rfl⟩
      · exact Sound.pureS hR he (exec_binop (r := .bool false) ho hg (by rw [ex, ey, run_eql_pointer_nil w t _ (by simp [Program.pointee, hty.1])]; rfl)) rfl
      · exact Sound.pureS hR he (exec_binop (r := .bool true) ho hg (by rw [ex, ey, run_neq_pointer_nil w t _ (by simp [Program.pointee, hty.1])]; rfl)) rfl
    · cases he
  · -- integers
    rename_i p q _ _ _
    have hg := eqGuard_scalar (P := P) (op := op) (t := t) (x := x) (y := y) (β := β) (own := fun b => w0.heap.size ≤ b) (w := w) (p := p) (q := q) rx ry
    split at he
    · rename_i k m k' n h1 h2
      obtain ⟨g1, g2⟩ := asI_rep rx h1
      obtain ⟨g3, g4⟩ := asI_rep ry h2
      exact sound_binopI hR ho g1 g2 g3 hg he hq
    · cases he
  · cases he
end
end Go.Adit

namespace Go.Adit
open Go.RowKit

section
variable {P : Program} {w0 : Base} {N : Nat} {s : St} {β : Nat → Option Nat} {a : Act} {w : World} {c : Cfg} {z : Zs} {own : Nat → Prop}

theorem sound_not (hR : Rel w0 N s β a w) {o : Oper} {t : TypeId} {x : Operand} (ho : o.op = .unOp .not t x) {b : BV} (hx : ev s x = some (.s (.bool b))) {e : Eff}
    (he : pureS (.bool (bvNot b)) = some e) : Sound P w0 N s a w o e := by
  have rx : a.eval x = .bool b.lb := ev_rep hR hx
  exact Sound.pureS hR he (v := .bool (!b.lb)) (by simp [execOp, ho, rx, Op.unary]) (by simp [RepS, bvNot_lb])

theorem sound_neg (hR : Rel w0 N s β a w) {o : Oper} {t : TypeId} {x : Operand} (ho : o.op = .unOp .neg t x) {k : IntKind} {n : IV} (hx : ev s x = some (.s (.int k n))) {e : Eff}
    (he : pureS (.int k (negIV k n)) = some e) : Sound P w0 N s a w o e := by
  have rx : a.eval x = .int k n.li := (ev_rep hR hx).1
  refine Sound.pureS hR he (v := .int k (k.wrap (0 - n.li))) (by simp [execOp, ho, rx, Op.unary, Op.intArith]) ?_
  cases n with
  | lit m => exact ⟨rfl, inR_wrap _ _⟩
  | sym m => exact ⟨rfl, inR_wrap _ _⟩

theorem sound_convI (E : Env P c z) (hR : Rel w0 N s β a w) {o : Oper} {src dst : TypeId} {x : Operand} (ho : o.op = .convert src dst x) {k0 k : IntKind} (h1 : c.ty src = .int k0) (h2 : c.ty dst = .int k)
    {y : SC} (hx : ev s x = some (.s y)) {e : Eff}
    (he : ((asI y).bind fun r => pureS (.int k (match r.2 with | .lit n => .lit (k.wrap n) | .sym n => .sym (liConv k n)))) = some e) : Sound P w0 N s a w o e := by
  simp only [Option.bind_eq_some_iff] at he
  obtain ⟨⟨k1, n⟩, hy, he⟩ := he
  obtain ⟨g1, g2⟩ := asI_rep (ev_rep hR hx) hy
  have e1 := E.ty src; rw [h1] at e1
  have e2 := E.ty dst; rw [h2] at e2
  refine Sound.pureS hR he (v := .int k (k.wrap n.li)) (by simp [execOp, ho, g1, convert, run_underlying e1.1, run_underlying e2.1, Conv.intToInt]) ?_
  cases n with
  | lit m => exact ⟨rfl, inR_wrap _ _⟩
  | sym m => exact ⟨rfl, inR_wrap _ _⟩

theorem nthF_get : ∀ {fs : List (Nat × Nat)} {i : Nat} {p : Nat × Nat}, nthF fs i = some p → fs[i]? = some p
  | [], _, _, h => by simp [nthF] at h
  | x :: _, 0, p, h => by simpa [nthF] using h
  | _ :: l, n + 1, p, h => by simpa [nthF] using nthF_get (fs := l) (i := n) h

theorem field_of (E : Env P c z) {t : TypeId} {fs : List (Nat × Nat)} {m : Nat} (h : c.ty t = .struct fs m) {i : Nat} {p : Nat × Nat} (hp : nthF fs i = some p) :
    ∃ Fs F, P.underlying t = some (.struct Fs) ∧ Fs[i]? = some F ∧ F.offset = p.1 ∧ F.type = p.2 := by
  have e1 := E.ty t; rw [h] at e1
  obtain ⟨Fs, h1, h2, _⟩ := e1
  have h3 := nthF_get hp
  rw [← h2] at h3
  simp only [List.getElem?_map, Option.map_eq_some_iff] at h3
  obtain ⟨F, h4, h5⟩ := h3
  exact ⟨Fs, F, h1, by simpa using h4, by rw [← h5], by rw [← h5]⟩

theorem size_of (E : Env P c z) {t : TypeId} (h : (c.ty t).known = true) : ∃ i, P.info? t = some i ∧ i.size = (c.ty t).size := by
  have e1 := E.ty t
  cases h2 : c.ty t <;> rw [h2] at e1 h <;> simp only [TyOK] at e1 <;> simp only [Ty.size] <;> try (simp [Ty.known] at h; done)
  case struct => obtain ⟨_, _, _, e1⟩ := e1; simpa [Option.map_eq_some_iff] using e1
  all_goals simpa [Option.map_eq_some_iff] using e1.2

theorem run_sizeOf (E : Env P c z) {t : TypeId} (h : (c.ty t).known = true) : (sizeOf t).run P w = .ok (c.ty t).size w := by
  obtain ⟨i, h1, h2⟩ := size_of E h
  simp [sizeOf, typeInfo, h1, h2]

theorem run_isAgg (E : Env P c z) {t : TypeId} (h : (c.ty t).known = true) : (isAgg t).run P w = .ok (c.ty t).isAgg w := by
  have e1 := E.ty t
  unfold isAgg
  cases h2 : c.ty t <;> rw [h2] at e1 h <;> simp only [TyOK] at e1 <;> try (simp [Ty.known] at h; done)
  case struct => obtain ⟨_, e1, _⟩ := e1; simp [run_underlying e1, Ty.isAgg]
  all_goals simp [run_underlying e1.1, Ty.isAgg]

theorem addr_add (b o n : Nat) : (⟨b, o, none⟩ : Go.Addr).add n = ⟨b, o + n, none⟩ := by
  unfold Addr.add; split <;> simp_all

theorem run_fieldPlace (E : Env P c z) {F : Field} (h : (c.ty F.type).known = true) (h0 : (c.ty F.type).size ≠ 0) (b o : Nat) :
    (fieldPlace ⟨b, o, none⟩ F).run P w = .ok ⟨b, o + F.offset, none⟩ w := by
  simp [fieldPlace, run_sizeOf E h, h0, addr_add]

theorem exec_fieldAddr (E : Env P c z) {o : Oper} {t : TypeId} {x : Operand} {f : Nat} (ho : o.op = .fieldAddr t x f) {fs : List (Nat × Nat)} {m : Nat} (h : c.ty t = .struct fs m)
    {p : Nat × Nat} (hp : nthF fs f = some p) (hk : (c.ty p.2).known = true) (h0 : (c.ty p.2).size ≠ 0) {b off : Nat} (hx : a.eval x = .pointer (some ⟨b, off, none⟩)) :
    (execOp a.eval o).run P w = .ok (.value (.pointer (some ⟨b, off + p.1, none⟩))) w := by
  obtain ⟨Fs, F, g1, g2, g3, g4⟩ := field_of E h hp
  rw [← g4] at hk h0
  simp [execOp, ho, Instr.fieldAt, run_underlying g1, g2, hx, Instr.sureAddr, run_fieldPlace E hk h0, g3]

theorem run_part (E : Env P c z) {t : TypeId} (hk : (c.ty t).known = true) {l : List SC} {cs : List Value} (h : RepL β own w l cs) {off : Nat} {d : D} (hp : partOf (c.ty t) l off = some d) :
    ∃ v, (part t ⟨cs⟩ off).run P w = .ok v w ∧ RepD β own w d v := by
  unfold partOf at hp
  unfold part
  split at hp
  · rename_i ha
    simp only [Option.map_eq_some_iff] at hp
    obtain ⟨r, h1, rfl⟩ := hp
    obtain ⟨g1, g2⟩ := RepL.take _ (RepL.drop off h) h1
    refine ⟨.agg ⟨(cs.drop off).take (c.ty t).size⟩, ?_, ⟨_, rfl, g1⟩⟩
    simp [run_isAgg E hk, ha, run_sizeOf E hk]
  · rename_i ha
    split at hp
    · rename_i x l' hl
      simp only [Option.some.injEq] at hp
      subst hp
      have h2 := RepL.drop off h
      rw [hl] at h2
      cases hc : cs.drop off with
      | nil => rw [hc] at h2; exact h2.elim
      | cons v r =>
        rw [hc] at h2
        refine ⟨v, ?_, h2.1⟩
        have h3 : cs[off]? = some v := by
          have := congrArg (fun q => q[0]?) hc
          simpa using this
        have h4 : (c.ty t).isAgg = false := by simpa using ha
        simp [run_isAgg E hk, h4, h3]
    · cases hp

theorem sound_field (E : Env P c z) (hR : Rel w0 N s β a w) {o : Oper} {t : TypeId} {x : Operand} {f : Nat} (ho : o.op = .field t x f) {fs : List (Nat × Nat)} {m : Nat} (h : c.ty t = .struct fs m)
    {l : List SC} (hx : ev s x = some (.agg l)) {e : Eff}
    (he : ((nthF fs f).bind fun p => if (c.ty p.2).known then (partOf (c.ty p.2) l p.1).bind pureV else none) = some e) : Sound P w0 N s a w o e := by
  simp only [Option.bind_eq_some_iff] at he
  obtain ⟨p, hp, he⟩ := he
  split at he
  · rename_i hk
    obtain ⟨cs, ex, rl⟩ := ev_rep hR hx
    obtain ⟨Fs, F, g1, g2, g3, g4⟩ := field_of E h hp
    refine Sound.bindPure hR he fun d hd => ?_
    obtain ⟨v, k1, k2⟩ := run_part E hk rl hd
    refine ⟨v, ?_, k2⟩
    rw [← g3, ← g4] at k1
    simp [execOp, ho, Instr.field, run_underlying g1, ex, asAgg, g2, k1]
  · cases he

theorem litNat_rep {d : D} {n : Nat} {v : Value} (h : RepD β own w d v) (hn : litNat d = some n) : ∃ k, v = .int k n := by
  unfold litNat at hn
  split at hn
  · rename_i k m
    split at hn
    · simp only [Option.some.injEq] at hn; subst hn; exact ⟨k, h.1⟩
    · cases hn
  · cases hn

theorem ivOf_rep {d : D} {n : IV} {v : Value} (h : RepD β own w d v) (hn : ivOf d = some n) : ∃ k, v = .int k n.li ∧ inR k n.li := by
  cases d with
  | s x =>
    simp only [ivOf, Option.map_eq_some_iff] at hn
    obtain ⟨⟨k, m⟩, h1, rfl⟩ := hn
    exact ⟨k, asI_rep h h1⟩
  | agg l => simp [ivOf] at hn
  | tup l => simp [ivOf] at hn

theorem idx_ok {i : IV} {n : Nat} (h : ∀ b ∈ idxReq i (n : Int), b = true) : 0 ≤ i.li ∧ i.li < (n : Int) := by
  have h1 := h _ (List.mem_cons_self ..)
  have h2 := h (lbLt i.li (n : Int)) (by simp [idxReq])
  exact ⟨(lbLe_iff _ _).1 h1, (lbLt_iff _ _).1 h2⟩

theorem exec_indexAddr_slice (E : Env P c z) {o : Oper} {t e : TypeId} {x i : Operand} (ho : o.op = .indexAddr t x i) (h : c.ty t = .slice e) (hk : (c.ty e).known = true) {b off n cap : Nat} {k : IntKind} {j : Int}
    (hx : a.eval x = .slice (some ⟨b, off, none⟩) n cap) (hi : a.eval i = .int k j) (h0 : 0 ≤ j) (h1 : j < n) :
    (execOp a.eval o).run P w = .ok (.value (.pointer (some ⟨b, off + j.toNat * (c.ty e).size, none⟩))) w := by
  have e1 := E.ty t; rw [h] at e1
  simp [execOp, ho, Instr.indexAt, hi, asIntOf, run_underlying e1.1, hx, h0, h1, run_sizeOf E hk, addr_add]

theorem getD_of_lt {α : Type} {l : List α} {i : Nat} (h : i < l.length) (d : α) : l[i]? = some (l.getD i d) := by
  simp [List.getD_eq_getElem?_getD, h]

theorem sound_indexAddr_exts (E : Env P c z) (hR : Rel w0 N s β a w) {o : Oper} {t e : TypeId} {x i : Operand} (ho : o.op = .indexAddr t x i) (h : c.ty t = .slice e) (hk : (c.ty e).known = true) (hs : (c.ty e).size = 2)
    {l : List Ext} {fl : Bool} (hx : ev s x = some (.s (.exts l fl))) {d : D} (hi : ev s i = some d) {k : IV} (hd : ivOf d = some k) (hq : ∀ b ∈ idxReq k (l.length : Int), b = true) (q : List Bool) :
    Sound P w0 N s a w o ⟨.s (.eptr (lxKind l k.li) (lxBody l k.li) 0), none, q⟩ := by
  obtain ⟨A, cap, g1, g2, g3⟩ := ev_rep hR hx
  obtain ⟨kk, g4, g5⟩ := ivOf_rep (ev_rep hR hi) hd
  obtain ⟨i0, i1⟩ := idx_ok hq
  rcases g3 with rfl | ⟨b, off, rfl, hb, ⟨hn, _⟩, hc⟩
  · simp at i1; omega
  · have hlt : k.li.toNat < l.length := by omega
    obtain ⟨c1, c2, c3, c4⟩ := hc k.li.toNat _ (getD_of_lt hlt ⟨0, []⟩)
    refine Sound.pure hR (exec_indexAddr_slice E ho h hk g1 g4 i0 (by omega)) ⟨b, off + k.li.toNat * (c.ty e).size, rfl, hb, hn, ?_⟩
    rw [hs]
    exact ⟨c1, c2, c3, c4⟩

theorem sound_indexAddr_strs (E : Env P c z) (hR : Rel w0 N s β a w) {o : Oper} {t e : TypeId} {x i : Operand} (ho : o.op = .indexAddr t x i) (h : c.ty t = .slice e) (hk : (c.ty e).known = true) (hs : (c.ty e).size = 1)
    {l : List (List UInt8)} (hx : ev s x = some (.s (.strs l))) {d : D} (hi : ev s i = some d) {k : IV} (hd : ivOf d = some k) (hq : ∀ b ∈ idxReq k (l.length : Int), b = true) (q : List Bool) :
    Sound P w0 N s a w o ⟨.s (.sptr (ltAt l k.li)), none, q⟩ := by
  obtain ⟨A, cap, g1, g2, g3⟩ := ev_rep hR hx
  obtain ⟨kk, g4, g5⟩ := ivOf_rep (ev_rep hR hi) hd
  obtain ⟨i0, i1⟩ := idx_ok hq
  rcases g3 with rfl | ⟨b, off, rfl, hb, hn, hc⟩
  · simp at i1; omega
  · have hlt : k.li.toNat < l.length := by omega
    obtain ⟨c1, c2⟩ := hc k.li.toNat _ (getD_of_lt hlt [])
    refine Sound.pure hR (exec_indexAddr_slice E ho h hk g1 g4 i0 (by omega)) ⟨b, off + k.li.toNat * (c.ty e).size, rfl, hb, hn, ?_⟩
    rw [hs, Nat.mul_one]
    exact ⟨c1, c2⟩

theorem sound_indexAddr_ints (E : Env P c z) (hR : Rel w0 N s β a w) {o : Oper} {t e : TypeId} {x i : Operand} (ho : o.op = .indexAddr t x i) (h : c.ty t = .slice e) (hk : (c.ty e).known = true) (hs : (c.ty e).size = 1)
    {l : List Int} (hx : ev s x = some (.s (.ints l))) {d : D} (hi : ev s i = some d) {k : IV} (hd : ivOf d = some k) (hq : ∀ b ∈ idxReq k (l.length : Int), b = true) (q : List Bool) :
    Sound P w0 N s a w o ⟨.s (.iptr (llAt l k.li)), none, q⟩ := by
  obtain ⟨A, cap, g1, g2, g3⟩ := ev_rep hR hx
  obtain ⟨kk, g4, g5⟩ := ivOf_rep (ev_rep hR hi) hd
  obtain ⟨i0, i1⟩ := idx_ok hq
  rcases g3 with rfl | ⟨b, off, rfl, hb, hn, hc⟩
  · simp at i1; omega
  · have hlt : k.li.toNat < l.length := by omega
    obtain ⟨c1, c2⟩ := hc k.li.toNat _ (getD_of_lt hlt 0)
    refine Sound.pure hR (exec_indexAddr_slice E ho h hk g1 g4 i0 (by omega)) ⟨b, off + k.li.toNat * (c.ty e).size, rfl, hb, hn, ?_⟩
    rw [hs, Nat.mul_one]
    exact ⟨c1, c2⟩

theorem exec_indexAddr_arr (E : Env P c z) {o : Oper} {t e n m : Nat} {x i : Operand} (ho : o.op = .indexAddr t x i) (h : c.ty t = .arr n e m) (hk : (c.ty e).known = true) {b off j : Nat} {k : IntKind}
    (hx : a.eval x = .pointer (some ⟨b, off, none⟩)) (hi : a.eval i = .int k j) (h1 : j < n) :
    (execOp a.eval o).run P w = .ok (.value (.pointer (some ⟨b, off + j * (c.ty e).size, none⟩))) w := by
  have e1 := E.ty t; rw [h] at e1
  have h2 : (0 : Int) ≤ j ∧ (j : Int) < n := ⟨by omega, by omega⟩
  simp [execOp, ho, Instr.indexAt, hi, asIntOf, run_underlying e1.1, hx, Instr.sureAddr, h2, h1, run_sizeOf E hk, addr_add]

theorem exec_index_str (E : Env P c z) {o : Oper} {t : TypeId} {x i : Operand} (ho : o.op = .index t x i) (h : c.ty t = .str) {l : List UInt8} {k : IntKind} {j : Int}
    (hx : a.eval x = .string ⟨⟨l⟩⟩) (hi : a.eval i = .int k j) (h0 : 0 ≤ j) (h1 : j < l.length) :
    (execOp a.eval o).run P w = .ok (.value (.int .u8 ((lsAt l j).toNat : Int))) w := by
  have e1 := E.ty t; rw [h] at e1
  have hlt : j.toNat < l.length := by omega
  have h3 : (ByteArray.mk ⟨l⟩)[j.toNat]? = some (lsAt l j) := by
    have h4 : j.toNat < (ByteArray.mk ⟨l⟩).size := hlt
    rw [ByteArray.getElem?_lt' _ _ h4]
    have h5 := getD_of_lt hlt (0 : UInt8)
    rw [List.getElem?_eq_getElem hlt] at h5
    simp only [Option.some.injEq] at h5 ⊢
    exact h5
  simp [execOp, ho, Instr.index, hi, asIntOf, run_underlying e1.1, hx, h0, h3]

theorem sound_extract (hR : Rel w0 N s β a w) {o : Oper} {x : Operand} {i : Nat} (ho : o.op = .extract x i) {l : List D} (hx : ev s x = some (.tup l)) {e : Eff} (he : (l[i]?.bind fun d => if d.clean then some d else none).bind pureV = some e) :
    Sound P w0 N s a w o e := by
  obtain ⟨vs, ex, rl⟩ := ev_rep hR hx
  refine Sound.bindPure hR he fun d hd => ?_
  have hd : l[i]? = some d := by
    simp only [Option.bind_eq_some_iff] at hd
    obtain ⟨d', h1, h2⟩ := hd
    split at h2
    · simp only [Option.some.injEq] at h2; subst h2; exact h1
    · cases h2
  have key : ∀ (l : List D) (vs : List Value) (i : Nat) (d : D), RepLs β (fun b => w0.heap.size ≤ b) w l vs → l[i]? = some d → ∃ v, vs[i]? = some v ∧ Rep1 β (fun b => w0.heap.size ≤ b) w d v := by
    intro l
    induction l with
    | nil => intro vs i d _ h; simp at h
    | cons y l ih =>
      intro vs i d hl h
      cases vs with
      | nil => exact hl.elim
      | cons v vs =>
        cases i with
        | zero => simp at h; subst h; exact ⟨v, by simp, hl.1⟩
        | succ i => simp at h; obtain ⟨u, h1, h2⟩ := ih vs i d hl.2 h; exact ⟨u, by simpa using h1, h2⟩
  obtain ⟨v, h1, h2⟩ := key l vs i d rl hd
  exact ⟨v, by simp [execOp, ho, ex, Instr.extract, h1], h2.toD⟩
end
end Go.Adit

namespace Go.Adit
open Go.RowKit

section
variable {P : Program} {w0 : Base} {N : Nat} {s : St} {β : Nat → Option Nat} {a : Act} {w : World} {c : Cfg} {z : Zs} {own : Nat → Prop}

theorem run_loadVar (E : Env P c z) {t : TypeId} (hk : (c.ty t).known = true) {l : List SC} {cs : List Value} (h : RepL β own w l cs) {b : Nat} {ty : TypeId}
    (hb : w.heap[b]? = some (.cells ⟨cs⟩ ty (0, 0))) {off : Nat} {d : D} (hp : partOf (c.ty t) l off = some d) :
    ∃ v, (loadVar t ⟨b, off, none⟩).run P w = .ok v w ∧ RepD β own w d v := by
  have hcell : ∀ j, w.cell? ⟨b, j, none⟩ = cs[j]? := fun j => by simp [World.cell?, hb]
  unfold partOf at hp
  unfold loadVar
  split at hp
  · rename_i ha
    simp only [Option.map_eq_some_iff] at hp
    obtain ⟨r, h1, rfl⟩ := hp
    obtain ⟨g1, g2⟩ := RepL.take _ (RepL.drop off h) h1
    refine ⟨.agg ⟨(cs.drop off).take (c.ty t).size⟩, ?_, ⟨_, rfl, g1⟩⟩
    have h3 : (loadCells ⟨b, off, none⟩ (c.ty t).size).run P w = .ok ⟨(cs.drop off).take (c.ty t).size⟩ w := by
      have := run_loadCells_list (P := P) w ⟨b, off, none⟩ ((cs.drop off).take (c.ty t).size) (fun j v hv => by
        rw [addr_add, hcell]
        rw [List.getElem?_take] at hv
        split at hv
        · simpa using hv
        · cases hv)
      rwa [show ((cs.drop off).take (c.ty t).size).length = (c.ty t).size by rw [List.length_take]; omega] at this
    simp [run_isAgg E hk, ha, run_sizeOf E hk, h3]
  · rename_i ha
    split at hp
    · rename_i x l' hl
      simp only [Option.some.injEq] at hp
      subst hp
      have h2 := RepL.drop off h
      rw [hl] at h2
      cases hc : cs.drop off with
      | nil => rw [hc] at h2; exact h2.elim
      | cons v r =>
        rw [hc] at h2
        refine ⟨v, ?_, h2.1⟩
        have h3 : cs[off]? = some v := by
          have := congrArg (fun q => q[0]?) hc
          simpa using this
        have h4 : (c.ty t).isAgg = false := by simpa using ha
        simp [run_isAgg E hk, h4, (hcell off).trans h3]
    · cases hp

theorem sound_load (E : Env P c z) (hR : Rel w0 N s β a w) {o : Oper} {t : TypeId} {x : Operand} (ho : o.op = .load t x) (hk : (c.ty t).known = true) {n off : Nat} (hx : ev s x = some (.s (.ptr n off)))
    {blk : Blk} (hm : s.m n = some blk) {e : Eff} (he : (partOf (c.ty t) blk.cells off).bind pureV = some e) : Sound P w0 N s a w o e := by
  obtain ⟨b, hb, ex⟩ := ev_rep hR hx
  obtain ⟨b', cs, ty, h1, h2, h3, _⟩ := hR.mem n blk hm
  obtain rfl : b = b' := by rw [hb] at h1; exact Option.some.inj h1
  refine Sound.bindPure hR he fun d hd => ?_
  obtain ⟨v, g1, g2⟩ := run_loadVar E hk h3 h2 hd
  exact ⟨v, by simp [execOp, ho, Instr.loadAt, Instr.sureAddr, ex, g1], g2⟩

theorem exec_load1 (E : Env P c z) {o : Oper} {t : TypeId} {x : Operand} (ho : o.op = .load t x) (hk : (c.ty t).known = true) (ha : (c.ty t).isAgg = false) {b off : Nat} (hx : a.eval x = .pointer (some ⟨b, off, none⟩))
    {v : Value} (hv : w.cell? ⟨b, off, none⟩ = some v) : (execOp a.eval o).run P w = .ok (.value v) w := by
  simp [execOp, ho, Instr.loadAt, Instr.sureAddr, hx, loadVar, run_isAgg E hk, ha, hv]

theorem exec_load2 (E : Env P c z) {o : Oper} {t : TypeId} {x : Operand} (ho : o.op = .load t x) (hk : (c.ty t).known = true) (ha : (c.ty t).isAgg = true) (hs : (c.ty t).size = 2) {b off : Nat}
    (hx : a.eval x = .pointer (some ⟨b, off, none⟩)) {u v : Value} (hu : w.cell? ⟨b, off, none⟩ = some u) (hv : w.cell? ⟨b, off + 1, none⟩ = some v) :
    (execOp a.eval o).run P w = .ok (.value (.agg ⟨[u, v]⟩)) w := by
  have h3 : (loadCells ⟨b, off, none⟩ 2).run P w = .ok ⟨[u, v]⟩ w := by
    have := run_loadCells_list (P := P) w ⟨b, off, none⟩ [u, v] (fun j x hx => by
      rw [addr_add]
      match j, hx with
      | 0, hx => simp at hx; subst hx; exact hu
      | 1, hx => simp at hx; subst hx; exact hv
      | n + 2, hx => simp at hx)
    simpa using this
  simp [execOp, ho, Instr.loadAt, Instr.sureAddr, hx, loadVar, run_isAgg E hk, ha, run_sizeOf E hk, hs, h3]

/-- a store into a block: what stands in the row behind it -/
theorem run_storeCells_at (g : Nat) (ty : TypeId) (off : Nat) : ∀ (vs : List Value) (i : Nat) (cur : List Value) (w : World), w.heap[g]? = some (.cells ⟨cur⟩ ty (0, 0)) → off + i + vs.length ≤ cur.length →
    (∀ v ∈ vs, v.oneCell' = true) → (storeCells ⟨g, off, none⟩ vs i).run P w = .ok () (w.setRow g ⟨cur.take (off + i) ++ (vs ++ cur.drop (off + i + vs.length))⟩)
  | [], i, cur, w, hg, _, _ => by
    have hlt : g < w.heap.size := (Array.getElem?_eq_some_iff.1 hg).1
    have hv : w.heap[g] = .cells ⟨cur⟩ ty (0, 0) := (Array.getElem?_eq_some_iff.1 hg).2
    simp only [storeCells, List.nil_append, List.length_nil, Nat.add_zero, List.take_append_drop]
    show Result.ok () w = _
    congr 1
    unfold World.setRow
    cases w with
    | mk heap tape drawn os output =>
      congr 1
      apply Array.ext
      · simp
      · intro k h1 h2
        simp only [Array.getElem_modify]
        split
        · rename_i hk; subst hk; simp at hv; simp [hv]
        · rfl
  | v :: rest, i, cur, w, hg, hl, h1 => by
    have hi : off + i < cur.length := by simp at hl; omega
    have hcell : w.cell? ⟨g, off + i, none⟩ = some cur[off + i] := by simp [World.cell?, hg, hi]
    have hfro : w.frozen? ⟨g, off + i, none⟩ = false := by simp [World.frozen?, hg]
    have hst : (store ((⟨g, off, none⟩ : Go.Addr).add i) v).run P w = .ok () (w.setRow g ⟨cur.set (off + i) v⟩) := by
      rw [addr_add, run_store P w _ v _ (h1 v (by simp)), hcell]
      simp [hfro, setCell_eq_setRow w g (off + i) ⟨cur⟩ ty (0, 0) v hg]
    have ih := run_storeCells_at g ty off rest (i + 1) (cur.set (off + i) v) (w.setRow g ⟨cur.set (off + i) v⟩) (setRow_heap w g ⟨cur⟩ _ ty _ hg) (by simp at hl ⊢; omega) (fun x hx => h1 x (by simp [hx]))
    simp only [storeCells, Sem.run_bind, hst, Result.andThen_ok, ih, setRow_setRow]
    congr 3
    rw [show off + (i + 1) = off + i + 1 by omega, List.drop_set_of_lt (by omega)]
    rw [List.take_add_one, List.take_set_of_le (by omega), List.getElem?_set_self hi]
    simp [show off + i + 1 + rest.length = off + i + (rest.length + 1) by omega]

theorem Rel.setRow (hR : Rel w0 N s β a w) {n b : Nat} (hb : β n = some b) {blk : Blk} {cs : List Value} {ty : TypeId} (hm : w.heap[b]? = some (.cells ⟨cs⟩ ty (0, 0))) {ds : List Value}
    (hc : RepL β (fun b => w0.heap.size ≤ b) w blk.cells ds) (hf : flats blk.cells = true) : Rel w0 N { s with m := updM s.m n blk } β a (w.setRow b ⟨ds⟩) := by
  have st : Step β β w (w.setRow b ⟨ds⟩) := by
    refine ⟨fun k o _ hk hn hv => (World.cell?_of_block (w := w) (setRow_other w b k _ (fun e => hn n (by rw [e]; exact hb)))).trans hv, by simp, fun _ _ h => h, fun _ _ h => h⟩
  exact {
    sz := hR.sz
    tm := fun t d hd => let ⟨v, h1, h2⟩ := hR.tm t d hd; ⟨v, h1, h2.mono st⟩
    mem := fun m bk h => by
      simp only [updM_at] at h
      by_cases e : m = n
      · subst e
        simp only [if_true, Option.some.injEq] at h
        subst h
        exact ⟨b, ds, ty, hb, setRow_heap w b ⟨cs⟩ _ ty _ hm, hc.mono st, hf⟩
      · simp only [if_neg e] at h
        obtain ⟨b', cs', ty', h1, h2, h3, h4⟩ := hR.mem m bk h
        exact ⟨b', cs', ty', h1, by rw [setRow_other w b b' _ (fun e' => e (hR.inj m n b' h1 (by rw [e']; exact hb)))]; exact h2, h3.mono st, h4⟩
    dom := fun m h => by
      simp only [updM_at] at h
      by_cases e : m = n
      · subst e; simp at h
      · simp only [if_neg e] at h; exact hR.dom m h
    inj := hR.inj
    new := fun m b' h => by have := hR.new m b' h; simpa using this
    bel := by
      have k := hR.bel
      refine ⟨k.os, k.tape, k.output, by simpa using k.size, fun j hj hx => ?_⟩
      rw [setRow_other w b j _ (fun e => ?_)]
      · exact k.block j hj hx
      · subst e
        rcases (hR.new n j hb).1 with h | h
        · omega
        · exact hx h
    dfr := hR.dfr
    lnt := hR.lnt }

theorem sound_store (E : Env P c z) (hR : Rel w0 N s β a w) {o : Oper} {t : TypeId} {x y : Operand} (ho : o.op = .store t x y) (hk : (c.ty t).known = true) {n off : Nat} (hx : ev s x = some (.s (.ptr n off)))
    {cs : List SC} (hy : (ev s y).bind cellsOf = some cs) {blk : Blk} (hm : s.m n = some blk) (hl : cs.length = (c.ty t).size) (hf : cs.all SC.flat = true) {l' : List SC} (hs : setAt blk.cells off cs = some l') :
    Sound P w0 N s a w o ⟨.tup [], some (n, ⟨l', blk.ty⟩), []⟩ := by
  obtain ⟨b, hb, ex⟩ := ev_rep hR hx
  obtain ⟨b', vs, ty, h1, h2, h3, h4⟩ := hR.mem n blk hm
  obtain rfl : b = b' := by rw [hb] at h1; exact Option.some.inj h1
  cases hyy : ev s y with
  | none => simp [hyy] at hy
  | some dy =>
    simp only [hyy, Option.bind_some] at hy
    have ry := cellsOf_rep (ev_rep hR hyy) hy
    have hlen := ry.length
    obtain ⟨g1, g2⟩ := RepL.set off h3 ry hs
    intro s1 hs1
    have e1 : s1 = { s with m := updM s.m n ⟨l', blk.ty⟩ } := by
      obtain ⟨dst, op, tt, pos, af, g⟩ := o
      simp only at ho
      subst ho
      simpa [putB, isWr] using hs1.symm
    subst e1
    have hrun := run_storeCells_at (P := P) b ty off (a.eval y).cells.toList 0 vs w h2 (by simpa using g1) (fun v hv => ry.one v hv)
    refine Does.skip (w' := w.setRow b ⟨vs.take off ++ ((a.eval y).cells.toList ++ vs.drop (off + (a.eval y).cells.toList.length))⟩) ?_ ⟨β, hR.setRow hb h2 g2 (setAt_flats off h4 hf hs), ⟨[], rfl, trivial⟩⟩
    have h5 : (a.eval y).cells.size = (c.ty t).size := by rw [← hl, hlen]; simp
    simp only [Nat.add_zero] at hrun
    simp [execOp, ho, Instr.storeAt, Instr.sureAddr, ex, storeVar, run_sizeOf E hk, h5, hrun]

theorem sound_nilCheck (hR : Rel w0 N s β a w) {o : Oper} {x : Operand} (ho : o.op = .nilCheck x) {n off : Nat} (hx : ev s x = some (.s (.ptr n off))) {e : Eff} (he : pureS (.ptr n off) = some e) : Sound P w0 N s a w o e := by
  obtain ⟨b, hb, ex⟩ := ev_rep hR hx
  exact Sound.pureS hR he (v := .pointer (some ⟨b, off, none⟩)) (by simp [execOp, ho, ex]) ⟨b, hb, rfl⟩

theorem exec_len (E : Env P c z) {o : Oper} {x : Operand} {ts : Array TypeId} (ho : o.op = .call { callee := .builtin .len, args := #[x], argTypes := ts }) {v : Value} {n : Nat} (hx : a.eval x = v)
    {t : TypeId} (ht : ts[0]? = some t) (h : (∃ l : List UInt8, c.ty t = .str ∧ v = .string ⟨⟨l⟩⟩ ∧ n = l.length) ∨ (∃ e p cap, c.ty t = .slice e ∧ v = .slice p n cap)) :
    (execOp a.eval o).run P w = .ok (.value (.int .i64 n)) w := by
  have e1 := E.ty t
  rcases h with ⟨l, h1, rfl, rfl⟩ | ⟨e, p, cap, h1, rfl⟩ <;> rw [h1] at e1
  · have h2 : (ByteArray.mk ⟨l⟩).size = l.length := rfl
    simp [execOp, ho, resolve, invoke, builtin, Builtin.len_, ht, hx, run_underlying e1.1, goInt, h2]
  · simp [execOp, ho, resolve, invoke, builtin, Builtin.len_, ht, hx, run_underlying e1.1, goInt]

theorem inR_len {n : Nat} (h : (n : Int) ≤ imax) : inR .i64 n := by
  unfold imax at h
  simp only [inR, IntKind.min, IntKind.max, IntKind.signed, IntKind.bits]
  simp
  omega

theorem exec_minmax {o : Oper} {x y : Operand} {ts : Array TypeId} (mx : Bool) (ho : o.op = .call { callee := .builtin (if mx then .max else .min), args := #[x, y], argTypes := ts }) {k k' : IntKind} {m n : Int}
    (hx : a.eval x = .int k m) (hy : a.eval y = .int k' n) : (execOp a.eval o).run P w = .ok (.value (.int k (if mx then (if n > m then n else m) else (if n < m then n else m)))) w := by
  cases mx <;> simp at ho <;> simp [execOp, ho, resolve, invoke, builtin, Builtin.max_, Builtin.min_, Builtin.max2, Builtin.min2, hx, hy]
end
end Go.Adit

namespace Go.Adit
open Go.RowKit

section
variable {P : Program} {w0 : Base} {N : Nat} {s : St} {β : Nat → Option Nat} {a : Act} {w : World} {c : Cfg} {z : Zs} {own : Nat → Prop}

theorem extract_mk' (l : List UInt8) (i j : Nat) : (ByteArray.mk ⟨l⟩).extract i j = ByteArray.mk ⟨(l.take j).drop i⟩ := by
  have := ByteArray.extract_mk l i j
  rw [List.drop_take]
  exact this

/-- the bound of a slice of a string, where it is written and where not -/
def loOf (l : Option IV) : Int := match l with | none => 0 | some i => i.li
def hiOf (n : Nat) (l : Option IV) : Int := match l with | none => n | some i => i.li

def IvAt (a : Act) (x : Option Operand) (i : Option IV) : Prop :=
  match x, i with
  | none, none => True
  | some y, some n => ∃ k, a.eval y = .int k n.li
  | _, _ => False

def NatAt (a : Act) (x : Option Operand) (m n : Nat) : Prop :=
  match x with
  | none => n = m
  | some y => ∃ k, a.eval y = .int k n

theorem exec_slice_str (E : Env P c z) {o : Oper} {t : TypeId} {x : Operand} {lo hi : Option Operand} (ho : o.op = .slice t x lo hi none) (h : c.ty t = .str) {l : List UInt8} (hx : a.eval x = .string ⟨⟨l⟩⟩)
    {i j : Option IV} (hlo : IvAt a lo i) (hhi : IvAt a hi j)
    (q1 : ∀ n, i = some n → 0 ≤ n.li ∧ n.li ≤ hiOf l.length j) (q2 : ∀ n, j = some n → 0 ≤ n.li ∧ n.li ≤ l.length) :
    (execOp a.eval o).run P w = .ok (.value (.string ⟨⟨lsSub l (loOf i) (hiOf l.length j)⟩⟩)) w := by
  have e1 := E.ty t; rw [h] at e1
  have hsz : (ByteArray.mk ⟨l⟩).size = l.length := rfl
  cases lo with
  | none =>
    cases i with
    | some n => exact hlo.elim
    | none =>
      cases hi with
      | none =>
        cases j with
        | some n => exact hhi.elim
        | none =>
          simp [execOp, ho, Instr.sliceAt, run_underlying e1.1, Instr.slice, hx, Instr.sliceBounds, lsSub, loOf, hiOf]
      | some y =>
        cases j with
        | none => exact hhi.elim
        | some n =>
          obtain ⟨k, hk⟩ := hhi
          have q := q2 n rfl
          simp [execOp, ho, Instr.sliceAt, run_underlying e1.1, Instr.slice, hx, hk, Instr.sliceBounds, Instr.sliceBound, asIntOf, q, extract_mk', lsSub, loOf, hiOf, hsz]
  | some yl =>
    cases i with
    | none => exact hlo.elim
    | some m =>
      obtain ⟨k1, hk1⟩ := hlo
      have p := q1 m rfl
      cases hi with
      | none =>
        cases j with
        | some n => exact hhi.elim
        | none =>
          simp only [hiOf] at p
          simp [execOp, ho, Instr.sliceAt, run_underlying e1.1, Instr.slice, hx, hk1, Instr.sliceBounds, Instr.sliceBound, asIntOf, p, extract_mk', lsSub, loOf, hiOf, hsz]
      | some y =>
        cases j with
        | none => exact hhi.elim
        | some n =>
          obtain ⟨k, hk⟩ := hhi
          have q := q2 n rfl
          simp only [hiOf] at p
          have p2 : m.li ≤ max n.li 0 := by omega
          simp [execOp, ho, Instr.sliceAt, run_underlying e1.1, Instr.slice, hx, hk, hk1, Instr.sliceBounds, Instr.sliceBound, asIntOf, q, p.1, p2, extract_mk', lsSub, loOf, hiOf, hsz]

theorem exec_slice_arr (E : Env P c z) {o : Oper} {t e n m : Nat} {x : Operand} {lo hi : Option Operand} (ho : o.op = .slice t x lo hi none) (h : c.ty t = .arr n e m) (hk : (c.ty e).known = true) {b off : Nat}
    (hx : a.eval x = .pointer (some ⟨b, off, none⟩)) {i j : Nat} (hlo : NatAt a lo 0 i) (hhi : NatAt a hi n j)
    (h1 : i ≤ j) (h2 : j ≤ n) (h3 : i < n) :
    (execOp a.eval o).run P w = .ok (.value (.slice (some ⟨b, off + i * (c.ty e).size, none⟩) (j - i) (n - i))) w := by
  have e1 := E.ty t; rw [h] at e1
  have g1 : (0 : Int) ≤ i ∧ (i : Int) ≤ (j : Int) := ⟨by omega, by omega⟩
  have g2 : (0 : Int) ≤ j ∧ (j : Int) ≤ (n : Int) := ⟨by omega, by omega⟩
  have g3 : ¬ n = i := by omega
  cases lo with
  | none =>
    simp only [NatAt] at hlo
    subst hlo
    cases hi with
    | none =>
      simp only [NatAt] at hhi
      subst hhi
      simp [execOp, ho, Instr.sliceAt, run_underlying e1.1, hx, Instr.sureAddr, Instr.sliceBounds, run_sizeOf E hk, addr_add]
    | some y =>
      obtain ⟨k, hk1⟩ := hhi
      simp [execOp, ho, Instr.sliceAt, run_underlying e1.1, hx, hk1, Instr.sureAddr, Instr.sliceBounds, Instr.sliceBound, asIntOf, h2, run_sizeOf E hk, addr_add]
  | some yl =>
    obtain ⟨k0, hk0⟩ := hlo
    cases hi with
    | none =>
      simp only [NatAt] at hhi
      subst hhi
      simp [execOp, ho, Instr.sliceAt, run_underlying e1.1, hx, hk0, Instr.sureAddr, Instr.sliceBounds, Instr.sliceBound, asIntOf, h1, run_sizeOf E hk, g3, addr_add]
    | some y =>
      obtain ⟨k, hk1⟩ := hhi
      simp [execOp, ho, Instr.sliceAt, run_underlying e1.1, hx, hk0, hk1, Instr.sureAddr, Instr.sliceBounds, Instr.sliceBound, asIntOf, h1, h2, run_sizeOf E hk, g3, addr_add]

theorem bytes_rep : ∀ {l : List SC} {cs : List Value} {ys : List UInt8}, RepL β own w l cs → Ops.bytes l = some ys → ∃ ns : List Int, cs = ns.map (Value.int .u8) ∧ ns.map (fun n => UInt8.ofNat n.toNat) = ys
  | [], [], ys, _, h => by simp [Ops.bytes] at h; subst h; exact ⟨[], rfl, rfl⟩
  | .byte y :: l, v :: cs, ys, ⟨h1, h2⟩, h => by
    simp only [Ops.bytes, Option.map_eq_some_iff] at h
    obtain ⟨r, hr, rfl⟩ := h
    obtain ⟨ns, rfl, rfl⟩ := bytes_rep h2 hr
    exact ⟨(y.toNat : Int) :: ns, by rw [show v = _ from h1]; rfl, by simp⟩
  | .int .u8 n :: l, v :: cs, ys, ⟨h1, h2⟩, h => by
    simp only [Ops.bytes, Option.map_eq_some_iff] at h
    obtain ⟨r, hr, rfl⟩ := h
    obtain ⟨ns, rfl, rfl⟩ := bytes_rep h2 hr
    exact ⟨n.li :: ns, by rw [show v = _ from h1.1]; rfl, by simp [lyOfInt]⟩
  | .int .i8 _ :: _, _, _, _, h | .int .i16 _ :: _, _, _, _, h | .int .i32 _ :: _, _, _, _, h | .int .i64 _ :: _, _, _, _, h | .int .u16 _ :: _, _, _, _, h | .int .u32 _ :: _, _, _, _, h
  | .int .u64 _ :: _, _, _, _, h | .bool _ :: _, _, _, _, h | .str _ :: _, _, _, _, h | .exts _ _ :: _, _, _, _, h | .strs _ :: _, _, _, _, h | .ints _ :: _, _, _, _, h | .ptr _ _ :: _, _, _, _, h
  | .lsl _ _ _ _ :: _, _, _, _, h | .eptr _ _ _ :: _, _, _, _, h | .sptr _ :: _, _, _, _, h | .iptr _ :: _, _, _, _, h | .fn _ :: _, _, _, _, h | .nilp :: _, _, _, _, h => by simp [Ops.bytes] at h
  | [], _ :: _, _, h, _ => h.elim
  | _ :: _, [], _, h, _ => h.elim

theorem foldl_push : ∀ (ns : List Int) (l : List UInt8), ns.foldl (fun (r : ByteArray) n => r.push (UInt8.ofNat n.toNat)) ⟨⟨l⟩⟩ = ⟨⟨l ++ ns.map fun n => UInt8.ofNat n.toNat⟩⟩
  | [], l => by simp
  | n :: ns, l => by
    simp only [List.foldl_cons, List.map_cons]
    have h : (ByteArray.mk ⟨l⟩).push (UInt8.ofNat n.toNat) = ⟨⟨l ++ [UInt8.ofNat n.toNat]⟩⟩ := by
      simp [ByteArray.push]
    rw [h, foldl_push ns]
    simp

theorem sound_convB (E : Env P c z) (hR : Rel w0 N s β a w) {o : Oper} {src dst e : TypeId} {x : Operand} (ho : o.op = .convert src dst x) (h1 : c.ty src = .slice e) (h2 : c.ty dst = .str) (h3 : c.ty e = .int .u8)
    {n off len cap : Nat} (hx : ev s x = some (.s (.lsl n off len cap))) {blk : Blk} (hm : s.m n = some blk) {ys : List UInt8} (hy : (takeN len (dropN off blk.cells)).bind Ops.bytes = some ys) (hl : len ≤ 65536)
    {ef : Eff} (he : pureS (.str (lsOf ys)) = some ef) : Sound P w0 N s a w o ef := by
  obtain ⟨b, hb, ex, _⟩ := ev_rep hR hx
  obtain ⟨b', vs, ty, g1, g2, g3, _⟩ := hR.mem n blk hm
  obtain rfl : b = b' := by rw [hb] at g1; exact Option.some.inj g1
  simp only [Option.bind_eq_some_iff] at hy
  obtain ⟨r, hr, hy⟩ := hy
  obtain ⟨k1, k2⟩ := RepL.take _ (RepL.drop off g3) hr
  obtain ⟨ns, e1, e2⟩ := bytes_rep k1 hy
  have hlen : ns.length = len := by
    have := congrArg List.length e1
    simp only [List.length_take, List.length_map] at this
    omega
  have hcell : ∀ j, w.cell? ⟨b, j, none⟩ = vs[j]? := fun j => by simp [World.cell?, g2]
  have hload : (loadCells ⟨b, off, none⟩ len).run P w = .ok (ns.map (Value.int .u8)).toArray w := by
    have := run_loadCells_list (P := P) w ⟨b, off, none⟩ (ns.map (Value.int .u8)) (fun j v hv => by
      rw [addr_add, hcell]
      rw [← e1, List.getElem?_take] at hv
      split at hv
      · simpa using hv
      · cases hv)
    rwa [show (ns.map (Value.int .u8)).length = len by simpa using hlen] at this
  have t1 := E.ty src; rw [h1] at t1
  have t2 := E.ty dst; rw [h2] at t2
  have t3 := E.ty e; rw [h3] at t3
  have hrun : (convert src dst (a.eval x)).run P w = .ok (.string ⟨⟨ys⟩⟩) w := by
    rw [ex, run_convert_bytes_string w src dst e _ _ _ t1.1 t3.1 t2.1, run_bytesToString w _ _ _ ns hload]
    have := foldl_push ns []
    rw [show ByteArray.empty = ⟨⟨[]⟩⟩ from rfl, this, e2]
    rfl
  refine Sound.pureS hR he (v := .string ⟨⟨ys⟩⟩) (by simp [execOp, ho, hrun]) ⟨rfl, ?_⟩
  have : ys.length = len := by rw [← e2]; simpa using hlen
  simp only [lsOf]
  unfold imax
  omega

theorem RepS.toNone {x : SC} {v : Value} (hf : x.flat = true) (h : RepS β own w x v) : RepS (fun _ => none) (fun _ => True) w x v := by
  cases x <;> simp [SC.flat] at hf <;> simp only [RepS] at h ⊢
  case bool | int | byte | str => exact h
  case exts l o =>
    obtain ⟨a, cap, e1, e2, e3⟩ := h
    exact ⟨a, cap, e1, e2, e3.imp id fun ⟨b, off, f1, f2, _, f4⟩ => ⟨b, off, f1, f2, ⟨fun _ => by simp, fun _ => trivial⟩, f4⟩⟩
  case strs l =>
    obtain ⟨a, cap, e1, e2, e3⟩ := h
    exact ⟨a, cap, e1, e2, e3.imp id fun ⟨b, off, f1, f2, _, f4⟩ => ⟨b, off, f1, f2, fun _ => by simp, f4⟩⟩
  case ints l =>
    obtain ⟨a, cap, e1, e2, e3⟩ := h
    exact ⟨a, cap, e1, e2, e3.imp id fun ⟨b, off, f1, f2, _, f4⟩ => ⟨b, off, f1, f2, fun _ => by simp, f4⟩⟩

theorem RepL.toNone : ∀ {l : List SC} {cs : List Value}, flats l = true → RepL β own w l cs → RepL (fun _ => none) (fun _ => True) w l cs
  | [], [], _, _ => trivial
  | x :: l, v :: cs, hf, ⟨h1, h2⟩ => by
    simp only [flats, List.all_cons, Bool.and_eq_true] at hf
    exact ⟨h1.toNone hf.1, RepL.toNone hf.2 h2⟩
  | [], _ :: _, _, h => h.elim
  | _ :: _, [], _, h => h.elim

theorem strs_rep : ∀ {l : List SC} {cs : List Value} {ys : List (List UInt8)}, RepL β own w l cs → Ops.strs l = some ys → cs.length = ys.length ∧ ∀ (i : Nat) (e : List UInt8), ys[i]? = some e → cs[i]? = some (.string ⟨⟨e⟩⟩) ∧ (e.length : Int) ≤ imax
  | [], [], ys, _, h => by simp [Ops.strs] at h; subst h; simp
  | x :: l, v :: cs, ys, ⟨h1, h2⟩, h => by
    cases x <;> simp [Ops.strs] at h
    case str y =>
      obtain ⟨r, hr, rfl⟩ := h
      obtain ⟨g1, g2⟩ := strs_rep h2 hr
      refine ⟨by simp [g1], fun i e he => ?_⟩
      cases i with
      | zero => simp at he; subst he; exact ⟨by rw [show v = _ from h1.1]; rfl, h1.2⟩
      | succ i => simp at he ⊢; exact g2 i e he
  | [], _ :: _, _, h, _ => h.elim
  | _ :: _, [], _, h, _ => h.elim

theorem argOf_rep (hR : Rel w0 N s β a w) {d d' : D} {v : Value} (hv : RepD β (fun b => w0.heap.size ≤ b) w d v) (h : argOf s d = some d') : Rep1 (fun _ => none) (fun _ => True) w d' v := by
  cases d with
  | tup l => simp [argOf] at h
  | agg l =>
    simp only [argOf] at h
    split at h
    · rename_i hf
      simp only [Option.some.injEq] at h
      subst h
      obtain ⟨cs, e1, e2⟩ := hv
      exact ⟨cs, e1, e2.toNone hf⟩
    · cases h
  | s x =>
    by_cases hl : ∃ n off len cap, x = .lsl n off len cap
    · obtain ⟨n, off, len, cap, rfl⟩ := hl
      simp only [argOf] at h
      split at h
      · rename_i blk hm
        simp only [Option.map_eq_some_iff, Option.bind_eq_some_iff] at h
        obtain ⟨ys, ⟨r, hr, hy⟩, rfl⟩ := h
        obtain ⟨b, hb, rfl, hlen⟩ := hv
        obtain ⟨b', vs, ty, g1, g2, g3, _⟩ := hR.mem n blk hm
        obtain rfl : b = b' := by rw [hb] at g1; exact Option.some.inj g1
        obtain ⟨k1, k2⟩ := RepL.take _ (RepL.drop off g3) hr
        obtain ⟨m1, m2⟩ := strs_rep k1 hy
        have hyl : ys.length = len := by rw [← m1, List.length_take]; omega
        subst hyl
        refine ⟨_, cap, rfl, hlen, .inr ⟨b, off, rfl, (hR.new n b hb).2, fun _ => by simp, fun i e he => ?_⟩⟩
        obtain ⟨c1, c2⟩ := m2 i e he
        refine ⟨?_, c2⟩
        rw [List.getElem?_take] at c1
        split at c1
        · simpa [World.cell?, g2] using c1
        · cases c1
      · cases h
    · have h' : (if x.flat then some (D.s x) else none) = some d' := by
        cases x <;> first
          | exact absurd ⟨_, _, _, _, rfl⟩ hl
          | exact h
      split at h'
      · rename_i hf
        simp only [Option.some.injEq] at h'
        subst h'
        exact RepS.toNone hf hv
      · cases h'

theorem argsOf_rep (hR : Rel w0 N s β a w) : ∀ {l : List Operand} {ds : List D}, argsOf s l = some ds → RepLs (fun _ => none) (fun _ => True) w ds (l.map a.eval)
  | [], ds, h => by simp [argsOf] at h; subst h; trivial
  | x :: l, ds, h => by
    simp only [argsOf] at h
    split at h
    · rename_i d r h1 h2
      simp only [Option.some.injEq] at h
      subst h
      simp only [Option.bind_eq_some_iff] at h1
      obtain ⟨d0, h3, h4⟩ := h1
      exact ⟨argOf_rep hR (ev_rep hR h3) h4, argsOf_rep hR h2⟩
    · cases h

theorem RepS.lift {x : SC} {v : Value} {w' : World} (hc : x.clean = true) (hβ : ∀ n b, β n = some b → b < w.heap.size) (h0 : w0.heap.size ≤ w.heap.size)
    {β0 : Nat → Option Nat} (h : RepS β0 (fun b => w.heap.size ≤ b) w' x v) : RepS β (fun b => w0.heap.size ≤ b) w' x v := by
  cases x <;> simp [SC.clean] at hc <;> simp only [RepS] at h ⊢
  case bool | int | byte | str => exact h
  case exts l o =>
    cases o <;> simp at hc
    obtain ⟨a, cap, e1, e2, e3⟩ := h
    refine ⟨a, cap, e1, e2, e3.imp id fun ⟨b, off, f1, f2, ⟨_, f3⟩, f4⟩ => ⟨b, off, f1, f2, ⟨fun n hn => ?_, fun _ => Nat.le_trans h0 (f3 rfl)⟩, f4⟩⟩
    have := hβ n b hn
    have := f3 rfl
    omega

theorem RepL.lift {w' : World} {β0 : Nat → Option Nat} (hβ : ∀ n b, β n = some b → b < w.heap.size) (h0 : w0.heap.size ≤ w.heap.size) : ∀ {l : List SC} {cs : List Value}, l.all SC.clean = true →
    RepL β0 (fun b => w.heap.size ≤ b) w' l cs → RepL β (fun b => w0.heap.size ≤ b) w' l cs
  | [], [], _, _ => trivial
  | x :: l, v :: cs, hf, ⟨h1, h2⟩ => by
    simp only [List.all_cons, Bool.and_eq_true] at hf
    exact ⟨h1.lift hf.1 hβ h0, RepL.lift hβ h0 hf.2 h2⟩
  | [], _ :: _, _, h => h.elim
  | _ :: _, [], _, h => h.elim

theorem Rep1.lift {w' : World} {β0 : Nat → Option Nat} (hβ : ∀ n b, β n = some b → b < w.heap.size) (h0 : w0.heap.size ≤ w.heap.size) {d : D} {v : Value} (hc : d.clean = true)
    (h : Rep1 β0 (fun b => w.heap.size ≤ b) w' d v) : Rep1 β (fun b => w0.heap.size ≤ b) w' d v := by
  cases d with
  | s x => exact RepS.lift hc hβ h0 h
  | agg l => obtain ⟨cs, e1, e2⟩ := h; exact ⟨cs, e1, RepL.lift hβ h0 hc e2⟩
  | tup l => exact h.elim

theorem RepLs.lift {w' : World} {β0 : Nat → Option Nat} (hβ : ∀ n b, β n = some b → b < w.heap.size) (h0 : w0.heap.size ≤ w.heap.size) : ∀ {l : List D} {cs : List Value}, l.all D.clean = true →
    RepLs β0 (fun b => w.heap.size ≤ b) w' l cs → RepLs β (fun b => w0.heap.size ≤ b) w' l cs
  | [], [], _, _ => trivial
  | x :: l, v :: cs, hf, ⟨h1, h2⟩ => by
    simp only [List.all_cons, Bool.and_eq_true] at hf
    exact ⟨h1.lift hβ h0 hf.1, RepLs.lift hβ h0 hf.2 h2⟩
  | [], _ :: _, _, h => h.elim
  | _ :: _, [], _, h => h.elim

theorem RepD.lift {w' : World} {β0 : Nat → Option Nat} (hβ : ∀ n b, β n = some b → b < w.heap.size) (h0 : w0.heap.size ≤ w.heap.size) {d : D} {v : Value} (hc : d.cleanT = true)
    (h : RepD β0 (fun b => w.heap.size ≤ b) w' d v) : RepD β (fun b => w0.heap.size ≤ b) w' d v := by
  cases d with
  | tup l => obtain ⟨vs, e1, e2⟩ := h; exact ⟨vs, e1, RepLs.lift hβ h0 hc e2⟩
  | s x => exact RepS.lift hc hβ h0 h
  | agg l => exact Rep1.lift (d := .agg l) hβ h0 hc h

theorem run_enter {o : Oper} {k : Call} {f : FuncId} (ho : o.op = .call k) (hf : k.callee = .value (.func f)) (hb : HasBody P f) : (execOp a.eval o).run P w = .ok (.enter f (k.args.map a.eval)) w := by
  obtain ⟨fn, f1, f2, f3⟩ := hb
  obtain ⟨callee, args, ats⟩ := k
  simp only at hf
  subst hf
  have f2' : ¬ fn.name = "runtime.NumGoroutine" := by simpa using f2
  have f3' : ¬ fn.body = none := by intro e; rw [e] at f3; simp at f3
  simp [execOp, ho, resolve, Act.eval, Deferred.ofValue, invoke, callFunc, f1, f2', f3']

theorem wp_enter {o : Oper} {k : Call} {f : FuncId} (ho : o.op = .call k) (hf : k.callee = .value (.func f)) (hb : HasBody P f) {R : Ending → World → Prop} (h : Calls P f ⟨k.args.toList.map a.eval⟩ w R)
    {K : Act → World → Prop} {Q : Exit → Act → World → Prop} (hK : ∀ e w', R e w' → match e with | .returned v => K (a.put o.dst v) w' | .panicked ch => Q (.panic ch) a w' | .outgrown => False) : o.wp P a w K Q := by
  unfold Oper.wp
  rw [run_enter ho hf hb]
  simp only [Oper.upon]
  rw [show (⟨k.args.toList.map a.eval⟩ : Array Value) = k.args.map a.eval by apply Array.ext'; simp] at h
  refine h.mono fun e w' hr => ?_
  have := hK e w' hr
  cases e with
  | returned v => exact this
  | panicked ch => exact this
  | outgrown => exact this.elim

theorem sound_call (E : Env P c z) (hR : Rel w0 N s β a w) {o : Oper} {k : Call} {f : FuncId} (ho : o.op = .call k) (hf : k.callee = .value (.func f)) (hlt : c.lent f = none) {l : List D} (hl : argsOf s k.args.toList = some l)
    (hdie : ∀ b n, c.die f [] l = some (b, n) → b.lb = false) {r : D × List Bool}
    (hc : c.call f l = some r) (hcl : r.1.cleanT = true) (hq : ∀ b ∈ r.2, b = true) : Sound P w0 N s a w o ⟨r.1, none, r.2⟩ := by
  obtain ⟨hb, hcon⟩ := E.call f l r.1 r.2 hlt hdie hc hq
  intro s1 hs1
  simp only [putB, Option.some.injEq] at hs1
  subst hs1
  intro K Q hK
  refine wp_enter ho hf hb (hcon w _ (argsOf_rep hR hl)) ?_
  rintro e w' ⟨v, rfl, h1, h2⟩
  exact hK v w' ⟨β, hR.below h2, RepD.lift (fun n b hn => (hR.new n b hn).2) hR.bel.size hcl h1⟩

theorem onlyB_far {b b' : Nat} (h : b' ≠ b) : ∀ n, onlyB b n ≠ some b' := by
  intro n e
  unfold onlyB at e
  split at e
  · simp only [Option.some.injEq] at e; exact h e.symm
  · cases e

theorem RepS.toOnly {n b : Nat} (hn : β n = some b) {x : SC} {v : Value} (hf : x.flat = true) (h : RepS β own w x v) : RepS (onlyB b) (fun _ => True) w x v := by
  have far : ∀ b', (∀ n, β n ≠ some b') → ∀ n, onlyB b n ≠ some b' := fun b' h' => onlyB_far fun e => h' n (by rw [hn, e])
  cases x <;> simp [SC.flat] at hf <;> simp only [RepS] at h ⊢
  case bool | int | byte | str => exact h
  case exts l o =>
    obtain ⟨a, cap, e1, e2, e3⟩ := h
    exact ⟨a, cap, e1, e2, e3.imp id fun ⟨b, off, f1, f2, f3, f4⟩ => ⟨b, off, f1, f2, ⟨far b f3.1, fun _ => trivial⟩, f4⟩⟩
  case strs l | ints l =>
    obtain ⟨a, cap, e1, e2, e3⟩ := h
    exact ⟨a, cap, e1, e2, e3.imp id fun ⟨b, off, f1, f2, f3, f4⟩ => ⟨b, off, f1, f2, far b f3, f4⟩⟩

theorem RepL.toOnly {n b : Nat} (hn : β n = some b) : ∀ {l : List SC} {cs : List Value}, l.all SC.flat = true → RepL β own w l cs → RepL (onlyB b) (fun _ => True) w l cs
  | [], [], _, _ => trivial
  | x :: l, v :: cs, hf, ⟨h1, h2⟩ => by
    simp only [List.all_cons, Bool.and_eq_true] at hf
    exact ⟨h1.toOnly hn hf.1, RepL.toOnly hn hf.2 h2⟩
  | [], _ :: _, _, h => h.elim
  | _ :: _, [], _, h => h.elim

theorem argFlat_rep {n b : Nat} (hn : β n = some b) {d d' : D} {v : Value} (hv : RepD β own w d v) (h : argFlat d = some d') : Rep1 (onlyB b) (fun _ => True) w d' v := by
  cases d with
  | tup l => simp [argFlat] at h
  | agg l =>
    simp only [argFlat] at h
    split at h
    · rename_i hf
      simp only [Option.some.injEq] at h
      subst h
      obtain ⟨cs, e1, e2⟩ := hv
      exact ⟨cs, e1, e2.toOnly hn hf⟩
    · cases h
  | s x =>
    simp only [argFlat] at h
    split at h
    · rename_i hf
      simp only [Option.some.injEq] at h
      subst h
      exact RepS.toOnly hn hf hv
    · cases h

theorem argsFlat_rep (hR : Rel w0 N s β a w) {n b : Nat} (hn : β n = some b) : ∀ {l : List Operand} {ds : List D}, argsFlat s l = some ds → RepLs (onlyB b) (fun _ => True) w ds (l.map a.eval)
  | [], ds, h => by simp [argsFlat] at h; subst h; trivial
  | x :: l, ds, h => by
    simp only [argsFlat] at h
    split at h
    · rename_i d r h1 h2
      simp only [Option.some.injEq] at h
      subst h
      simp only [Option.bind_eq_some_iff] at h1
      obtain ⟨d0, h3, h4⟩ := h1
      exact ⟨argFlat_rep hn (ev_rep hR h3) h4, argsFlat_rep hR hn h2⟩
    · cases h

theorem lentOf_rep (hR : Rel w0 N s β a w) {m : Nat} {l : List Operand} {q : Nat × Blk × List Operand} (h : lentOf m s l = some q) :
    ∃ b cs ty, β q.1 = some b ∧ s.m q.1 = some q.2.1 ∧ q.2.1.cells.length = m ∧ w.heap[b]? = some (.cells ⟨cs⟩ ty (0, 0)) ∧ RepL (onlyB b) (fun _ => True) w q.2.1.cells cs ∧
      l.map a.eval = .pointer (some ⟨b, 0, none⟩) :: q.2.2.map a.eval := by
  cases l with
  | nil => simp [lentOf] at h
  | cons x r =>
    simp only [lentOf] at h
    split at h
    · rename_i n off hx
      split at h
      · rename_i blk hm
        split at h
        · rename_i hlen
          simp only [Option.some.injEq] at h
          subst h
          obtain ⟨b, hb, ex⟩ := ev_rep hR hx
          obtain ⟨b', cs, ty, g1, g2, g3, g4⟩ := hR.mem n blk hm
          obtain rfl : b = b' := by rw [hb] at g1; exact Option.some.inj g1
          exact ⟨b, cs, ty, hb, hm, Nat.eq_of_beq_eq_true hlen, g2, g3.toOnly hb g4, by simp [ex]⟩
        · cases h
      · cases h
    · cases h

theorem Kept.only {b : Nat} {w' : World} (h : Kept ⟨w, fun k => k = b, [], pinB b⟩ w') {b' : Nat} (hb : b' < w.heap.size) (hne : b' ≠ b) : w'.heap[b']? = w.heap[b']? := h.block b' hb hne

theorem Rel.kept (hR : Rel w0 N s β a w) {n b : Nat} (hb : β n = some b) {w' : World} (hk : Kept ⟨w, fun k => k = b, [], pinB b⟩ w') : Kept w0 w' := by
  refine ⟨hk.os.trans hR.bel.os, hk.tape.trans hR.bel.tape, hk.output.trans hR.bel.output, Nat.le_trans hR.bel.size hk.size, fun j hj hx => ?_⟩
  rw [hk.only (Nat.lt_of_lt_of_le hj hR.bel.size) (fun e => ?_)]
  · exact hR.bel.block j hj hx
  · subst e
    rcases (hR.new n j hb).1 with h | h
    · omega
    · exact hx h

theorem step_kept (hR : Rel w0 N s β a w) {n b : Nat} (hb : β n = some b) {w' : World} (hk : Kept ⟨w, fun k => k = b, [], pinB b⟩ w') : Step β β w w' :=
  ⟨fun k o _ hk' hn hv => (World.cell?_of_block (w := w) (hk.only hk' (fun e => hn n (by rw [show k = b from e]; exact hb)))).trans hv, hk.size, fun _ _ h => h, fun _ _ h => h⟩

theorem Rel.lent (hR : Rel w0 N s β a w) {n b : Nat} (hb : β n = some b) {w' : World} (hk : Kept ⟨w, fun k => k = b, [], pinB b⟩ w') {cs : List Value} {ty : TypeId} {blk : Blk} (h1 : w'.heap[b]? = some (.cells ⟨cs⟩ ty (0, 0)))
    (h2 : RepL β (fun b => w0.heap.size ≤ b) w' blk.cells cs) (hf : flats blk.cells = true) : Rel w0 N { s with m := updM s.m n blk } β a w' where
  sz := hR.sz
  tm t d hd := let ⟨v, g1, g2⟩ := hR.tm t d hd; ⟨v, g1, g2.mono (step_kept hR hb hk)⟩
  mem m bk h := by
    simp only [updM_at] at h
    by_cases e : m = n
    · subst e
      simp only [if_true, Option.some.injEq] at h
      subst h
      exact ⟨b, cs, ty, hb, h1, h2, hf⟩
    · simp only [if_neg e] at h
      obtain ⟨b', cs', ty', g1, g2, g3, g4⟩ := hR.mem m bk h
      exact ⟨b', cs', ty', g1, by rw [hk.only (hR.new m b' g1).2 (fun e' => e (hR.inj m n b' g1 (by rw [e']; exact hb)))]; exact g2, g3.mono (step_kept hR hb hk), g4⟩
  dom m h := by
    simp only [updM_at] at h
    by_cases e : m = n
    · subst e; simp at h
    · simp only [if_neg e] at h; exact hR.dom m h
  inj := hR.inj
  new m b' h := ⟨(hR.new m b' h).1, Nat.lt_of_lt_of_le (hR.new m b' h).2 hk.size⟩
  bel := hR.kept hb hk
  dfr := hR.dfr
  lnt := hR.lnt

theorem sound_callm (E : Env P c z) (hR : Rel w0 N s β a w) {o : Oper} {k : Call} {f : FuncId} (ho : o.op = .call k) (hf : k.callee = .value (.func f)) {m : Nat} (hlt : c.lent f = some m) {q : Nat × Blk × List Operand}
    (hq1 : lentOf m s k.args.toList = some q) {l : List D} (hl : argsFlat s q.2.2 = some l)
    (hdie : ∀ b n, c.die f q.2.1.cells l = some (b, n) → b.lb = false) {r : D × List SC × List Bool}
    (hc : c.callm f q.2.1.cells l = some r) (hcl : r.1.cleanT = true) (hcc : r.2.1.all SC.clean = true) (hq : ∀ b ∈ r.2.2, b = true) : Sound P w0 N s a w o ⟨r.1, some (q.1, ⟨r.2.1, q.2.1.ty⟩), r.2.2⟩ := by
  obtain ⟨b, cs, ty, e1, e2, e3, e4, e5, e6⟩ := lentOf_rep hR hq1
  obtain ⟨hb, hcon⟩ := E.callm f q.2.1.cells l r.1 r.2.1 r.2.2 (by rw [hlt, e3]) hdie hc hq
  intro s1 hs1
  obtain rfl : s1 = { s with m := updM s.m q.1 ⟨r.2.1, q.2.1.ty⟩ } := by
    obtain ⟨dst, op, tt, pos, af, g⟩ := o
    simp only at ho
    subst ho
    simpa [putB, isWr] using hs1.symm
  intro K Q hK
  refine wp_enter ho hf hb (R := _) (by rw [e6]; exact hcon w b cs ty _ e4 e5 (argsFlat_rep hR e1 hl)) ?_
  rintro e w' ⟨v, cs', ty', rfl, h1, h2, h3, h4⟩
  have hlt : ∀ n b, β n = some b → b < w.heap.size := fun n b hn => (hR.new n b hn).2
  refine hK v w' ⟨β, hR.lent e1 h4 h2 (RepL.lift hlt hR.bel.size hcc h3) ?_, RepD.lift hlt hR.bel.size hcl h1⟩
  simp only [flats, List.all_eq_true] at hcc ⊢
  intro x hx
  have := hcc x hx
  cases x <;> simp [SC.clean] at this <;> rfl

/-- behind a panic: what blocks are still known -/
structure Left (w0 : Base) (N : Nat) (c : Cfg) (s : St) (β : Nat → Option Nat) (a : Act) (w' : World) : Prop where
  ex : ∃ s1 β1, Rel w0 N s1 β1 a w' ∧ ∀ k blk, s.m k = some blk → (s1.m k = some blk ∧ β1 k = β k) ∨ ∃ f, c.lent f = some blk.cells.length

theorem die_call (E : Env P c z) (hR : Rel w0 N s β a w) {o : Oper} {k : Call} {f : FuncId} (ho : o.op = .call k) (hf : k.callee = .value (.func f)) {bv : BV} {n : Int} (hd : dieE c s f k.args.toList = some (bv, n)) (hb : bv.lb = true)
    {K : Act → World → Prop} {Q : Exit → Act → World → Prop} (hQ : ∀ w', Left w0 N c s β a w' → Q (.panic (errChain n)) a w') : o.wp P a w K Q := by
  unfold dieE at hd
  split at hd
  · rename_i m hlt
    simp only [Option.bind_eq_some_iff] at hd
    obtain ⟨q, hq1, l, hl, hd⟩ := hd
    obtain ⟨b, cs, ty, e1, e2, e3, e4, e5, e6⟩ := lentOf_rep hR hq1
    obtain ⟨hbd, hcon⟩ := E.diem f q.2.1.cells l bv n (by rw [hlt, e3]) hd hb
    refine wp_enter ho hf hbd (R := _) (by rw [e6]; exact hcon w b cs ty _ e4 e5 (argsFlat_rep hR e1 hl)) ?_
    rintro e w' ⟨rfl, h4⟩
    have h1 : ∀ u x, (fun u => if u = q.1 then none else β u) u = some x → β u = some x := by
      intro u x e; simp only at e; split at e
      · cases e
      · exact e
    refine hQ w' ⟨{ t := fun _ => none, m := fun u => if u = q.1 then none else s.m u }, fun u => if u = q.1 then none else β u, ?_, fun u blk hu => ?_⟩
    · refine ⟨hR.sz, fun t d h => (nomatch h), fun u blk hu => ?_, fun u hu => ?_, fun u u' x h h' => hR.inj u u' x (h1 u x h) (h1 u' x h'), fun u x h => ?_, hR.kept e1 h4, hR.dfr, fun n b hn hb b' h' => hR.lnt n b hn hb b' (h1 _ _ h')⟩
      · simp only at hu
        split at hu
        · cases hu
        · rename_i hne
          obtain ⟨b', cs', ty', g1, g2, g3, g4⟩ := hR.mem u blk hu
          refine ⟨b', cs', ty', by simp only [if_neg hne]; exact g1, by rw [h4.only (hR.new u b' g1).2 (fun e' => hne (hR.inj u q.1 b' g1 (by rw [e']; exact e1)))]; exact g2, ?_, g4⟩
          refine RepL.restrict h1 (fun x hx j hj => ?_) (g3.mono (step_kept hR e1 h4))
          have := List.all_eq_true.1 g4 x hx
          have hnil : x.names = [] := by cases x <;> simp [SC.flat] at this <;> rfl
          rw [hnil] at hj
          cases hj
      · simp only at hu ⊢
        split
        · rfl
        · rename_i hne
          rw [if_neg hne] at hu
          exact hR.dom u hu
      · have := hR.new u x (h1 u x h)
        exact ⟨this.1, Nat.lt_of_lt_of_le this.2 h4.size⟩
    · by_cases hne : u = q.1
      · subst hne
        rw [e2] at hu
        simp only [Option.some.injEq] at hu
        subst hu
        exact .inr ⟨f, by rw [hlt, e3]⟩
      · exact .inl ⟨by simp only [if_neg hne]; exact hu, by simp only [if_neg hne]⟩
  · rename_i hlt
    simp only [Option.bind_eq_some_iff] at hd
    obtain ⟨l, hl, hd⟩ := hd
    obtain ⟨hbd, hcon⟩ := E.die f l bv n hlt hd hb
    refine wp_enter ho hf hbd (hcon w _ (argsOf_rep hR hl)) ?_
    rintro e w' ⟨rfl, h4⟩
    exact hQ w' ⟨s, β, hR.below h4, fun u blk hu => .inl ⟨hu, rfl⟩⟩
end
end Go.Adit

namespace Go.Adit
open Go.RowKit

section
variable {P : Program} {w0 : Base} {N : Nat} {s : St} {β : Nat → Option Nat} {a : Act} {w : World} {c : Cfg} {z : Zs} {own : Nat → Prop}

theorem foldl_setAt (off : Nat) : ∀ (vs : List Value) (k : Nat) (cells : List Value), off + k + vs.length ≤ cells.length →
    (vs.zipIdx k).foldl (fun (cs : Array Value) x => cs.setIfInBounds (off + x.2) x.1) ⟨cells⟩ = ⟨cells.take (off + k) ++ (vs ++ cells.drop (off + k + vs.length))⟩
  | [], k, cells, _ => by simp
  | v :: vs, k, cells, h => by
    simp only [List.zipIdx_cons, List.foldl_cons]
    have h1 : (Array.mk cells).setIfInBounds (off + k) v = ⟨cells.set (off + k) v⟩ := by
      apply Array.ext'; simp
    have hi : off + k < cells.length := by simp at h; omega
    rw [h1, foldl_setAt off vs (k + 1) (cells.set (off + k) v) (by simp at h ⊢; omega)]
    congr 1
    rw [show off + (k + 1) = off + k + 1 by omega, List.drop_set_of_lt (by omega)]
    rw [List.take_add_one, List.take_set_of_le (by omega), List.getElem?_set_self hi]
    simp [show off + k + 1 + vs.length = off + k + (vs.length + 1) by omega]

theorem fill_rep (hR : Rel w0 N s β a w) {place : Nat → Option (Nat × Nat)} : ∀ {ps : List (Nat × Operand)} {l l' : List SC} {cs : List Value},
    RepL β (fun b => w0.heap.size ≤ b) w l cs → fillParts place s l ps = some l' →
    ∃ cs', Instr.fill place ⟨cs⟩ (ps.map fun p => (p.1, a.eval p.2)) = some ⟨cs'⟩ ∧ RepL β (fun b => w0.heap.size ≤ b) w l' cs'
  | [], l, l', cs, h, hf => by simp [fillParts] at hf; subst hf; exact ⟨cs, rfl, h⟩
  | (i, x) :: r, l, l', cs, h, hf => by
    simp only [fillParts] at hf
    split at hf
    · rename_i off size ds h1 h2
      split at hf
      · rename_i h3
        simp only [Option.bind_eq_some_iff] at hf h2
        obtain ⟨l1, h4, h5⟩ := hf
        obtain ⟨d, h6, h7⟩ := h2
        have ry := cellsOf_rep (ev_rep hR h6) h7
        have hlen := ry.length
        obtain ⟨g1, g2⟩ := RepL.set off h ry h4
        obtain ⟨cs', k1, k2⟩ := fill_rep hR g2 h5
        refine ⟨cs', ?_, k2⟩
        have h8 : ds.length = size := Nat.eq_of_beq_eq_true h3
        have h9 : (a.eval x).cells.size = size := by rw [← h8, hlen]; simp
        simp only [List.map_cons, Instr.fill, h1, h9]
        have h10 : ¬ (size ≠ size || decide (off + size > (Array.mk cs).size)) = true := by
          have : (a.eval x).cells.toList.length = size := by simpa using h9
          rw [this] at g1
          simp
          omega
        rw [if_neg h10]
        have h11 : ((a.eval x).cells.zipIdx.foldl (fun (cs : Array Value) (x : Value × Nat) => cs.setIfInBounds (off + x.2) x.1) (Array.mk cs)) = Array.mk (cs.take off ++ ((a.eval x).cells.toList ++ cs.drop (off + (a.eval x).cells.toList.length))) := by
          rw [← Array.foldl_toList, Array.toList_zipIdx]
          exact foldl_setAt off _ 0 cs (by simpa using g1)
        rw [← k1, ← h11]
      · cases hf
    · cases hf

theorem places_of (E : Env P c z) : ∀ {Fs : List Field} {fs : List (Nat × Nat)}, Fs.map (fun f => (f.offset, f.type)) = fs → (fs.all fun f => (c.ty f.2).known) = true →
    Fs.mapM (fun f => (P.info? f.type).map fun i => (f.offset, i.size)) = some (fs.map fun f => (f.1, (c.ty f.2).size))
  | [], fs, h, _ => by simp at h; subst h; simp
  | F :: Fs, fs, h, hk => by
    simp only [List.map_cons] at h
    subst h
    simp only [List.all_cons, Bool.and_eq_true] at hk
    obtain ⟨i, h1, h2⟩ := size_of E hk.1
    have ih := places_of E rfl hk.2
    simp [List.mapM_cons, h1, h2, ih]

theorem nthF_eq : ∀ (fs : List (Nat × Nat)) (i : Nat), nthF fs i = fs[i]?
  | [], i => by simp [nthF]
  | x :: _, 0 => by simp [nthF]
  | _ :: l, n + 1 => by simpa [nthF] using nthF_eq l n

theorem parts_map (ps : Array (Nat × Operand)) : (ps.map fun (p : Nat × Operand) => (p.1, a.eval p.2)).toList = ps.toList.map fun p => (p.1, a.eval p.2) := by simp

theorem sound_build (E : Env P c z) (hR : Rel w0 N s β a w) {o : Oper} {t : TypeId} {ps : Array (Nat × Operand)} (ho : o.op = .build t ps) {l r : List SC} (hz : zeroCells c z.ext z.strs z.ints 20 t = some l)
    (h : (∃ fs n, c.ty t = .struct fs n ∧ (fs.all fun f => (c.ty f.2).known) = true ∧ fillParts (fun i => (nthF fs i).map fun f => (f.1, (c.ty f.2).size)) s l ps.toList = some r) ∨
      (∃ n e m, c.ty t = .arr n e m ∧ (c.ty e).known = true ∧ fillParts (fun i => some (i * (c.ty e).size, (c.ty e).size)) s l ps.toList = some r)) : Sound P w0 N s a w o ⟨.agg r, none, []⟩ := by
  obtain ⟨i, v, h1, h2, h3, h4⟩ := zero_rep E hz β (fun b => w0.heap.size ≤ b) w
  have key : ∃ cs', P.built t (ps.map fun (p : Nat × Operand) => (p.1, a.eval p.2)).toList = some ⟨cs'⟩ ∧ RepL β (fun b => w0.heap.size ≤ b) w r cs' := by
    rw [parts_map]
    rcases h with ⟨fs, n, g1, g2, g3⟩ | ⟨n, e, m, g1, g2, g3⟩
    · have e1 := E.ty t; rw [g1] at e1
      obtain ⟨Fs, e2, e3, _⟩ := e1
      obtain ⟨cs', k1, k2⟩ := fill_rep hR h3 g3
      refine ⟨cs', ?_, k2⟩
      unfold Program.built
      simp only [h1, e2, h2, places_of E e3 g2]
      rw [← k1]
      congr 1
      funext i
      simp [nthF_eq]
    · have e1 := E.ty t; rw [g1] at e1
      obtain ⟨cs', k1, k2⟩ := fill_rep hR h3 g3
      obtain ⟨ie, m1, m2⟩ := size_of E g2
      refine ⟨cs', ?_, k2⟩
      unfold Program.built
      simp only [h1, e1.1, h2, m1, m2]
      exact k1
  obtain ⟨cs', k1, k2⟩ := key
  refine Sound.pure hR (v := .agg ⟨cs'⟩) ?_ ⟨cs', rfl, k2⟩
  have := run_build w t (ps.map fun (p : Nat × Operand) => (p.1, a.eval p.2)) ⟨cs'⟩ k1
  simp only [execOp, ho]
  simp only [Sem.run_bind]
  rw [show (fun (x : Nat × Operand) => match x with | (i, x) => (i, a.eval x)) = fun (p : Nat × Operand) => (p.1, a.eval p.2) from rfl, this]
  rfl

theorem RepL.ofGet : ∀ {l : List SC} {cs : List Value}, l.length = cs.length → (∀ (i : Nat) x, l[i]? = some x → ∃ v, cs[i]? = some v ∧ RepS β own w x v) → RepL β own w l cs
  | [], [], _, _ => trivial
  | x :: l, v :: cs, h, hg => by
    obtain ⟨u, h1, h2⟩ := hg 0 x (by simp)
    simp at h1
    subst h1
    exact ⟨h2, RepL.ofGet (by simpa using h) fun i y hy => by
      obtain ⟨u, k1, k2⟩ := hg (i + 1) y (by simpa using hy)
      exact ⟨u, by simpa using k1, k2⟩⟩
  | [], _ :: _, h, _ => by simp at h
  | _ :: _, [], h, _ => by simp at h

theorem repl_length (l : List SC) : ∀ n, (repl n l).length = n * l.length
  | 0 => by simp [repl]
  | n + 1 => by simp [repl, repl_length l n, Nat.succ_mul]; omega

theorem repl_get (l : List SC) : ∀ (n i : Nat), i < n * l.length → (repl n l)[i]? = l[i % l.length]?
  | 0, i, h => by simp at h
  | n + 1, i, h => by
    simp only [repl]
    by_cases hi : i < l.length
    · rw [List.getElem?_append_left hi, Nat.mod_eq_of_lt hi]
    · rw [List.getElem?_append_right (by omega), repl_get l n (i - l.length) (by rw [Nat.succ_mul] at h; omega)]
      congr 1
      rw [← Nat.mod_eq_sub_mod (by omega)]

theorem sound_buildSlice (E : Env P c z) (hR : Rel w0 N s β a w) {o : Oper} {t e len d : Nat} {ps : Array (Nat × Operand)} (ho : o.op = .buildSlice t len ps) (h : c.ty t = .slice e) (hk : (c.ty e).known = true)
    {zl r : List SC} (hz : zeroCells c z.ext z.strs z.ints 20 e = some zl) (hs : zl.length = (c.ty e).size) (hs0 : 0 < (c.ty e).size) (hb : len * (c.ty e).size ≤ 65536)
    (hf : fillParts (fun i => some (i * (c.ty e).size, (c.ty e).size)) s (repl len zl) ps.toList = some r) (hfl : flats r = true) :
    Sound P w0 N s a w o ⟨.s (.lsl d 0 len len), some (d, ⟨r, e⟩), []⟩ := by
  obtain ⟨i, v, h1, h2, h3, h4⟩ := zero_rep E hz β (fun b => w0.heap.size ≤ b) w
  have e1 := E.ty t; rw [h] at e1
  have hvl : v.cells.size = (c.ty e).size := by rw [← hs, h3.length]; simp
  have hrow : RepL β (fun b => w0.heap.size ≤ b) w (repl len zl) ((Array.range (len * (c.ty e).size)).map (fun j => v.cells[j % v.cells.size]!)).toList := by
    refine RepL.ofGet (by simp [repl_length, hs]) fun j x hx => ?_
    have hj : j < len * zl.length := by
      have := (List.getElem?_eq_some_iff.1 hx).1
      rwa [repl_length] at this
    rw [repl_get zl len j hj] at hx
    obtain ⟨u, g1, g2⟩ := h3.get hx
    refine ⟨u, ?_, g2⟩
    rw [hs] at hj g1
    have h5 : j % v.cells.size < v.cells.size := Nat.mod_lt _ (by omega)
    have h6 : v.cells[j % v.cells.size]? = some u := by rw [hvl]; simpa using g1
    have h7 : v.cells[j % v.cells.size]! = u := by
      rw [Array.getElem!_eq_getD, Array.getD_eq_getD_getElem?, h6]; rfl
    have h8 : ((Array.range (len * (c.ty e).size)).map (fun j => v.cells[j % v.cells.size]!)).toList[j]? = some (v.cells[j % v.cells.size]!) := by simp [hj]
    rw [h8, h7]
  obtain ⟨cs', k1, k2⟩ := fill_rep hR hrow hf
  refine Sound.new hR (by rw [ho]; rfl) (cs := cs') (ty := e) k2 hfl (v := .slice (some ⟨w.heap.size, 0, none⟩) len len) ?_ ?_
  · have hfill : ∀ q : Array Value, (len * (c.ty e).size = 0 ∨ q = v.cells) → Instr.fill (fun i => some (i * (c.ty e).size, (c.ty e).size)) ((Array.range (len * (c.ty e).size)).map (fun j => q[j % q.size]!)) (ps.map fun (p : Nat × Operand) => (p.1, a.eval p.2)).toList = some ⟨cs'⟩ := by
      rintro q hq
      rw [show (Array.range (len * (c.ty e).size)).map (fun j => q[j % q.size]!) = (Array.range (len * (c.ty e).size)).map (fun j => v.cells[j % v.cells.size]!) by
        rcases hq with hq | rfl
        · simp [hq]
        · rfl, parts_map]
      exact k1
    have hlt : ¬ len * (c.ty e).size > 2 ^ 24 := by
      have : (2 : Nat) ^ 24 = 16777216 := rfl
      omega
    simp only [execOp, ho, Instr.buildSlice, Sem.run_bind, run_underlying e1.1, Result.andThen_ok, run_sizeOf E hk, if_neg hlt, Sem.run_pure]
    rw [show (fun (x : Nat × Operand) => match x with | (i, x) => (i, a.eval x)) = fun (p : Nat × Operand) => (p.1, a.eval p.2) from rfl]
    by_cases h0 : len * (c.ty e).size = 0
    · simp only [if_pos h0, Sem.run_bind, Sem.run_pure, Result.andThen_ok]
      rw [hfill #[] (.inl h0)]
      simp [newRow]
    · simp only [if_neg h0, Sem.run_bind, Sem.run_pure, Result.andThen_ok, run_zeroValue h1 h2]
      rw [hfill v.cells (.inr rfl)]
      simp [newRow]
  · intro β' hb'
    refine ⟨_, hb', rfl, ?_⟩
    have : len ≤ len * (c.ty e).size := Nat.le_mul_of_pos_right len hs0
    unfold imax
    omega
end
end Go.Adit

namespace Go.Adit
open Go.RowKit

section
variable {P : Program} {w0 : Base} {N : Nat} {s : St} {β : Nat → Option Nat} {a : Act} {w : World} {c : Cfg} {z : Zs} {own : Nat → Prop}

theorem beq_of {m n : Nat} (h : Nat.beq m n = true) : m = n := Nat.eq_of_beq_eq_true h
theorem blt_of {m n : Nat} (h : Nat.blt m n = true) : m < n := by simpa [Nat.blt_eq] using h
theorem ble_of {m n : Nat} (h : Nat.ble m n = true) : m ≤ n := Nat.le_of_ble_eq_true h

theorem okTy_of {t : Ty} (h : okTy t = true) : t.known = true ∧ t.size ≠ 0 := by
  simp only [okTy, Bool.and_eq_true, Bool.not_eq_true'] at h
  exact ⟨h.1, fun e => by rw [e] at h; exact absurd h.2 (by decide)⟩

theorem natOf_rep (hR : Rel w0 N s β a w) {x : Option Operand} {m n : Nat} (h : natOf m (x.map (ev s)) = some n) : NatAt a x m n := by
  cases x with
  | none => simp only [Option.map_none, natOf, Option.some.injEq] at h; exact h.symm
  | some y =>
    simp only [Option.map_some, natOf, Option.bind_eq_some_iff] at h
    obtain ⟨d, h1, h2⟩ := h
    exact litNat_rep (ev_rep hR h1) h2

theorem ivsOf_rep (hR : Rel w0 N s β a w) {x : Option Operand} {i : Option IV} (h : ivsOf (x.map (ev s)) = some i) : IvAt a x i := by
  cases x with
  | none => simp only [Option.map_none, ivsOf, Option.some.injEq] at h; subst h; trivial
  | some y =>
    simp only [Option.map_some, ivsOf, Option.map_eq_some_iff, Option.bind_eq_some_iff] at h
    obtain ⟨n, ⟨d, h1, h2⟩, rfl⟩ := h
    obtain ⟨k, h3, _⟩ := ivOf_rep (ev_rep hR h1) h2
    exact ⟨k, h3⟩

theorem sub_length (l : List UInt8) (i j : Int) : (lsSub l i j).length ≤ l.length := by
  simp only [lsSub, List.length_drop, List.length_take]; omega

theorem inR_if {k : IntKind} {p : Prop} [Decidable p] {m n : Int} (h1 : inR k m) (h2 : inR k n) : inR k (if p then m else n) := by split <;> assumption

theorem sound_minmax (hR : Rel w0 N s β a w) {o : Oper} {k : Call} (mx : Bool) (ho : o.op = .call k) (hf : k.callee = .builtin (if mx then .max else .min)) {e : Eff} (he : minmax mx s k.args.toList = some e) : Sound P w0 N s a w o e := by
  unfold minmax at he
  split at he
  · rename_i x y hl
    split at he
    · rename_i p q hx hy
      split at he
      · rename_i kk m k' n h1 h2
        split at he
        · rename_i hk
          subst hk
          obtain ⟨g1, g2⟩ := asI_rep (ev_rep hR hx) h1
          obtain ⟨g3, g4⟩ := asI_rep (ev_rep hR hy) h2
          have ho' : o.op = .call { callee := .builtin (if mx then .max else .min), args := #[x, y], argTypes := k.argTypes } := by
            rw [ho]
            obtain ⟨callee, args, ats⟩ := k
            simp only at hf hl
            subst hf
            have : args = #[x, y] := by apply Array.ext'; simpa using hl
            rw [this]
          refine Sound.pureS hR he (exec_minmax mx ho' g1 g3) ⟨?_, ?_⟩
          · cases mx <;> rfl
          · cases mx
            · exact inR_if g4 g2
            · exact inR_if g4 g2
        · cases he
      · cases he
    · cases he
  · cases he

theorem asY_rep {x : SC} {y : UInt8} (h : asY x = some y) {v : Value} (hv : RepS β own w x v) : RepS β own w (.byte y) v := by
  unfold asY at h
  split at h
  · simp only [Option.some.injEq] at h; subst h; exact hv
  · rename_i n
    simp only [Option.some.injEq] at h; subst h
    obtain ⟨rfl, h1, h2⟩ := hv
    have e1 : IntKind.min .u8 = 0 := rfl
    have e2 : IntKind.max .u8 = 255 := rfl
    rw [e1] at h1
    rw [e2] at h2
    simp only [RepS, lyOfInt, Value.int.injEq, true_and]
    rw [UInt8.toNat_ofNat']
    omega
  · cases h

theorem copyInto_rep {b : List UInt8} : ∀ {l r : List SC} {i : Nat} {vs : List Value}, copyInto b i l = some r → RepL β own w l vs →
    RepL β own w r ((Lib.byteCells (b.drop i)).take vs.length ++ vs.drop (b.length - i))
  | [], r, i, [], h, _ => by simp [copyInto] at h; subst h; simp; trivial
  | x :: l, r, i, v :: vs, h, hv => by
    simp only [copyInto] at h
    split at h
    · rename_i y hy
      simp only [Option.map_eq_some_iff] at h
      obtain ⟨r', h1, rfl⟩ := h
      have ih := copyInto_rep h1 hv.2
      by_cases hi : i < b.length
      · rw [List.drop_eq_getElem_cons hi]
        have e1 : b.length - i = (b.length - (i + 1)) + 1 := by omega
        simp only [Lib.byteCells, List.map_cons, List.length_cons, List.take_succ_cons, e1, List.drop_succ_cons, List.cons_append]
        refine ⟨?_, ih⟩
        have ht : lbLt (liLit i) (liLen b) = true := by simp [lbLt, liLit, liLen]; omega
        simp only [RepS, lyIf]
        rw [ht]
        simp only [if_true, lsAt, liLit]
        simp [List.getD_eq_getElem?_getD, hi]
      · have e1 : b.length - i = 0 := by omega
        have e2 : b.length - (i + 1) = 0 := by omega
        rw [e2, List.drop_eq_nil_of_le (show b.length ≤ i + 1 by omega)] at ih
        rw [e1, List.drop_eq_nil_of_le (show b.length ≤ i by omega)]
        simp only [Lib.byteCells, List.map_nil, List.take_nil, List.nil_append, List.drop_zero] at ih ⊢
        refine ⟨?_, ih⟩
        have ht : lbLt (liLit i) (liLen b) = false := by simp [lbLt, liLit, liLen]; omega
        simp only [ht, lyIf, Bool.false_eq_true, if_false]
        exact asY_rep hy hv.1
    · cases h
  | [], _, _, _ :: _, _, h => h.elim
  | _ :: _, _, _, [], _, h => h.elim

theorem copyInto_flats {b : List UInt8} : ∀ {l r : List SC} {i : Nat}, copyInto b i l = some r → r.all SC.flat = true
  | [], r, i, h => by simp [copyInto] at h; subst h; rfl
  | x :: l, r, i, h => by
    simp only [copyInto] at h
    split at h
    · simp only [Option.map_eq_some_iff] at h
      obtain ⟨r', h1, rfl⟩ := h
      simp [SC.flat, copyInto_flats h1]
    · cases h

theorem sound_copy (E : Env P c z) (hR : Rel w0 N s β a w) {o : Oper} {k : Call} (ho : o.op = .call k) (hf : k.callee = .builtin .copy) {e : Eff} (he : copyE c s k.args.toList k.argTypes.toList = some e) (hq : ∀ b ∈ e.req, b = true) : Sound P w0 N s a w o e := by
  unfold copyE at he
  split at he
  · rename_i x y t t' hl ht
    split at he
    · rename_i elem n off len cap b h1 hx hy
      split at he
      · rename_i blk h2 hm
        simp only [Option.bind_eq_some_iff, Option.map_eq_some_iff] at he
        obtain ⟨new, ⟨old, h7, h8⟩, l', h9, rfl⟩ := he
        have hlen : (b.length : Int) ≤ len := by
          have := hq _ (.head _)
          simpa [lbLe, liLen, liLit] using this
        obtain ⟨bb, hb, ex, _⟩ := ev_rep hR hx
        obtain ⟨ey, hbl⟩ := ev_rep hR hy
        obtain ⟨b', cs, ty, g1, g2, g3, g4⟩ := hR.mem n blk hm
        obtain rfl : bb = b' := by rw [hb] at g1; exact Option.some.inj g1
        obtain ⟨k1, k2⟩ := RepL.take _ (RepL.drop off g3) h7
        have k3 := copyInto_rep h8 k1
        simp only [List.drop_zero, Nat.sub_zero] at k3
        have kl := k3.length
        obtain ⟨m1, m2⟩ := RepL.set off g3 k3 h9
        intro s1 hs1
        obtain rfl : s1 = { s with m := updM s.m n ⟨l', blk.ty⟩ } := by
          obtain ⟨dst, op, tt, pos, af, g⟩ := o
          simp only at ho
          subst ho
          simpa [putB, isWr] using hs1.symm
        have t1 := E.ty t; rw [h1] at t1
        have t2 := E.ty elem; rw [h2] at t2
        have hk : k = { callee := .builtin .copy, args := #[x, y], argTypes := #[t, t'] } := by
          obtain ⟨callee, args, ats⟩ := k
          simp only at hf hl ht
          subst hf
          have e1 : args = #[x, y] := by apply Array.ext'; simpa using hl
          have e2 : ats = #[t, t'] := by apply Array.ext'; simpa using ht
          rw [e1, e2]
        have hll : ((cs.drop off).take len).length = len := by rw [List.length_take]; omega
        have hbl' : (Lib.byteCells b).length = b.length := by simp [Lib.byteCells]
        have hb2 : b.length ≤ len := by omega
        have hrun := Lib.run_copy_row_string (P := P) w t t' o.type elem bb off len cap ⟨⟨b⟩⟩ ⟨cs⟩ ty t1.1 t2.2 g2 (by exact hb2) (by
          rw [List.length_take, List.length_drop] at hll
          show off + b.length ≤ cs.length
          omega)
        have hds : cs.take off ++ ((Lib.byteCells b).take ((cs.drop off).take len).length ++ ((cs.drop off).take len).drop b.length ++ cs.drop (off + ((Lib.byteCells b).take ((cs.drop off).take len).length ++ ((cs.drop off).take len).drop b.length).length)) =
            cs.take off ++ Lib.byteCells b ++ cs.drop (off + b.length) := by
          rw [hll, show (Lib.byteCells b).take len = Lib.byteCells b from List.take_of_length_le (by omega)]
          have e3 : (Lib.byteCells b ++ ((cs.drop off).take len).drop b.length).length = len := by
            rw [List.length_append, hbl', List.length_drop, hll]; omega
          rw [e3, List.append_assoc, List.append_assoc]
          congr 2
          have e4 : off + len = (off + b.length) + (len - b.length) := by omega
          rw [List.drop_take, e4, ← List.drop_drop, ← List.drop_drop, List.take_append_drop]
        rw [hds] at m2
        refine Does.run (v := goInt b.length) (w' := w.setRow bb ⟨cs.take off ++ Lib.byteCells b ++ cs.drop (off + b.length)⟩) ?_ ⟨β, hR.setRow hb g2 m2 (setAt_flats off g4 (copyInto_flats h8) h9), ⟨rfl, inR_len hbl⟩⟩
        have hrun' : (Builtin.copy_ #[t, t'] o.type #[a.eval x, a.eval y]).run P w = .ok (goInt b.length) (w.setRow bb ⟨cs.take off ++ Lib.byteCells b ++ cs.drop (off + b.length)⟩) := by
          rw [ex, ey]; exact hrun
        simp [execOp, ho, hk, resolve, invoke, builtin, hrun', Result.andThen]
      · cases he
    · cases he
  · cases he

theorem op_sound (E : Env P c z) (hR : Rel w0 N s β a w) {o : Oper} {e : Eff} (he : opEval c z s o = some e) (hdie : ∀ b n, dieOf c s o = some (b, n) → b.lb = false) (hq : ∀ b ∈ e.req, b = true) : Sound P w0 N s a w o e := by
  unfold opEval at he
  split at he
  · rename_i x ho; exact sound_move hR (.inl ho) he
  · rename_i x ho; exact sound_move hR (.inr ho) he
  · rename_i k x y ho
    split at he
    · rename_i hk; exact sound_pick hR ho (b := true) hk he
    · rename_i hk; exact sound_pick hR ho (b := false) hk he
    · cases he
  · rename_i t ho
    split at he
    · rename_i d l h1 h2
      simp only [Option.some.injEq] at he
      subst he
      exact sound_alloc E hR ho h2
    · cases he
  · rename_i t x ho
    split at he
    · rename_i d l h1 h2
      split at he
      · rename_i hf
        simp only [Option.some.injEq] at he
        subst he
        exact sound_box hR ho h2 hf
      · cases he
    · cases he
  · rename_i t ps ho
    split at he
    · rename_i fs n l h1 h2
      split at he
      · rename_i h3
        simp only [Option.map_eq_some_iff] at he
        obtain ⟨r, h4, rfl⟩ := he
        exact sound_build E hR ho h2 (.inl ⟨fs, n, h1, h3, h4⟩)
      · cases he
    · rename_i n e1 m l h1 h2
      split at he
      · rename_i h3
        simp only [Option.map_eq_some_iff] at he
        obtain ⟨r, h4, rfl⟩ := he
        exact sound_build E hR ho h2 (.inr ⟨n, e1, m, h1, h3, h4⟩)
      · cases he
    · cases he
  · rename_i t len ps ho
    split at he
    · rename_i e1 d h1 h2
      split at he
      · rename_i zl h3
        simp only [Option.bind_eq_some_iff] at he
        obtain ⟨r, h4, he⟩ := he
        split at he
        · rename_i h5
          simp only [Bool.and_eq_true] at h5
          obtain ⟨f1, f2, f3, f4, f5⟩ := h5
          simp only [Option.some.injEq] at he
          subst he
          exact sound_buildSlice E hR ho h1 f2 h3 (beq_of f4) (blt_of f5) (ble_of f3) h4 f1
        · cases he
      · cases he
    · cases he
  · rename_i t x ho
    split at he
    · rename_i n off hx
      split at he
      · rename_i blk hm
        split at he
        · rename_i hk; exact sound_load E hR ho hk hx hm he
        · cases he
      · cases he
    · rename_i kd bd off hx
      obtain ⟨b, o1, ex, hb, hn, c1, c2, c3, c4⟩ := ev_rep hR hx
      split at he
      · rename_i fs h1
        exact Sound.bindPure hR (x := some (.agg [.int .i64 (.sym kd), .str bd])) he fun d hd => by
          simp only [Option.some.injEq] at hd
          subst hd
          exact ⟨_, exec_load2 E ho (by rw [h1]; rfl) (by rw [h1]; rfl) (by rw [h1]; rfl) ex c1 c3, ⟨_, rfl, ⟨rfl, c2⟩, ⟨rfl, c4⟩, trivial⟩⟩
      · rename_i h1
        exact Sound.pureS hR he (exec_load1 E ho (by rw [h1]; rfl) (by rw [h1]; rfl) ex c1) ⟨rfl, c2⟩
      · rename_i h1
        exact Sound.pureS hR he (exec_load1 E ho (by rw [h1]; rfl) (by rw [h1]; rfl) ex c3) ⟨rfl, c4⟩
      · cases he
    · rename_i y hx
      obtain ⟨b, o1, ex, hb, hn, c1, c2⟩ := ev_rep hR hx
      split at he
      · rename_i h1; exact Sound.pureS hR he (exec_load1 E ho (by rw [h1]; rfl) (by rw [h1]; rfl) ex c1) ⟨rfl, c2⟩
      · cases he
    · rename_i y hx
      obtain ⟨b, o1, ex, hb, hn, c1, c2⟩ := ev_rep hR hx
      split at he
      · rename_i h1; exact Sound.pureS hR he (exec_load1 E ho (by rw [h1]; rfl) (by rw [h1]; rfl) ex c1) ⟨rfl, c2⟩
      · cases he
    · cases he
  · rename_i t x y ho
    split at he
    · rename_i n off cs hx hy
      split at he
      · rename_i blk hm
        split at he
        · rename_i h1
          simp only [Bool.and_eq_true] at h1
          simp only [Option.map_eq_some_iff] at he
          obtain ⟨l', h2, rfl⟩ := he
          exact sound_store E hR ho h1.1 hx hy hm (beq_of h1.2.1) h1.2.2 h2
        · cases he
      · cases he
    · cases he
  · rename_i x ho
    split at he
    · rename_i n off hx; exact sound_nilCheck hR ho hx he
    · cases he
  · rename_i op t x y t' ho
    split at he
    · rename_i dx dy hx hy; exact sound_binop E hR ho hx hy he hq
    · cases he
  · rename_i op t x ho
    split at he
    · rename_i b hx; exact sound_not hR ho hx he
    · rename_i k n hx; exact sound_neg hR ho hx he
    · cases he
  · rename_i src dst x ho
    split at he
    · rename_i k0 k y h1 h2 hx; exact sound_convI E hR ho h1 h2 hx he
    · rename_i e1 n off len cap h1 h2 hx
      split at he
      · rename_i blk hm h3
        split at he
        · rename_i h4
          simp only [Option.bind_eq_some_iff] at he
          obtain ⟨ys, ⟨r, h5, h6⟩, he⟩ := he
          exact sound_convB E hR ho h1 h2 h3 hx hm (by rw [h5]; exact h6) (ble_of h4) he
        · cases he
      · cases he
    · cases he
  · rename_i t x lo hi ho
    split at he
    · rename_i l h1 hx
      split at he
      · rename_i i j hi hj
        simp only [Option.some.injEq] at he
        subst he
        obtain ⟨ex, hl⟩ := ev_rep hR hx
        have q : ∀ n, j = some n → 0 ≤ n.li ∧ n.li ≤ (l.length : Int) := by
          rintro n rfl
          exact ⟨(lbLe_iff _ _).1 (hq (lbLe (liLit 0) n.li) (by simp [hiReq])), (lbLe_iff _ _).1 (hq (lbLe n.li (liLen l)) (by simp [hiReq]))⟩
        have p : ∀ n, i = some n → 0 ≤ n.li ∧ n.li ≤ hiOf l.length j := by
          rintro n rfl
          have h2 := (lbLe_iff _ _).1 (hq (lbLe n.li (hiIv l j)) (by simp [loReq]))
          exact ⟨(lbLe_iff _ _).1 (hq (lbLe (liLit 0) n.li) (by simp [loReq])), by cases j <;> exact h2⟩
        have hrun := exec_slice_str (P := P) (w := w) E ho h1 ex (ivsOf_rep hR hi) (ivsOf_rep hR hj) p q
        refine Sound.pure hR hrun ⟨?_, ?_⟩
        · cases i <;> cases j <;> rfl
        · have := sub_length l (loIv i) (hiIv l j)
          omega
      · cases he
    · rename_i n e1 m b off h1 hx
      split at he
      · rename_i i j hi hj
        split at he
        · rename_i h2
          simp only [Bool.and_eq_true] at h2
          obtain ⟨⟨f1, f2⟩, f3, f4, f5⟩ := h2
          obtain ⟨b', hb, ex⟩ := ev_rep hR hx
          refine Sound.pureS hR he (exec_slice_arr E ho h1 f4 ex (natOf_rep hR hi) (natOf_rep hR hj) (ble_of f1) (ble_of f2) (blt_of f3)) ⟨b', hb, rfl, ?_⟩
          have g1 := ble_of f2
          have g2 := ble_of f5
          unfold imax
          omega
        · cases he
      · cases he
    · cases he
  · rename_i t x f ho
    split at he
    · rename_i fs m n off h1 hx
      simp only [Option.bind_eq_some_iff] at he
      obtain ⟨p, h2, he⟩ := he
      split at he
      · rename_i h3
        obtain ⟨k1, k2⟩ := okTy_of h3
        obtain ⟨b, hb, ex⟩ := ev_rep hR hx
        exact Sound.pureS hR he (exec_fieldAddr E ho h1 h2 k1 k2 ex) ⟨b, hb, rfl⟩
      · cases he
    · rename_i fs m kd bd off h1 hx
      simp only [Option.bind_eq_some_iff] at he
      obtain ⟨p, h2, he⟩ := he
      split at he
      · rename_i h3
        obtain ⟨k1, k2⟩ := okTy_of h3
        obtain ⟨b, o1, ex, hb, hn, c1, c2, c3, c4⟩ := ev_rep hR hx
        exact Sound.pureS hR he (exec_fieldAddr E ho h1 h2 k1 k2 ex) ⟨b, o1, by rw [Nat.add_assoc], hb, hn, c1, c2, c3, c4⟩
      · cases he
    · cases he
  · rename_i t x f ho
    split at he
    · rename_i fs m l h1 hx; exact sound_field E hR ho h1 hx he
    · cases he
  · rename_i t x i ho
    split at he
    · rename_i n e1 m b off j h1 hx hi
      simp only [Option.bind_eq_some_iff] at he
      obtain ⟨k, h2, he⟩ := he
      split at he
      · rename_i h3
        simp only [Bool.and_eq_true] at h3
        obtain ⟨b', hb, ex⟩ := ev_rep hR hx
        obtain ⟨kk, h4⟩ := litNat_rep (ev_rep hR hi) h2
        exact Sound.pureS hR he (exec_indexAddr_arr E ho h1 h3.2 ex h4 (blt_of h3.1)) ⟨b', hb, rfl⟩
      · cases he
    · rename_i e1 l fl j h1 hx hi
      simp only [Option.bind_eq_some_iff] at he
      obtain ⟨k, h2, he⟩ := he
      split at he
      · rename_i h3
        simp only [Bool.and_eq_true] at h3
        simp only [Option.some.injEq] at he
        subst he
        exact sound_indexAddr_exts E hR ho h1 h3.1 (beq_of h3.2) hx hi h2 hq _
      · cases he
    · rename_i e1 l j h1 hx hi
      simp only [Option.bind_eq_some_iff] at he
      obtain ⟨k, h2, he⟩ := he
      split at he
      · rename_i h3
        simp only [Bool.and_eq_true] at h3
        simp only [Option.some.injEq] at he
        subst he
        exact sound_indexAddr_strs E hR ho h1 h3.1 (beq_of h3.2) hx hi h2 hq _
      · cases he
    · rename_i e1 l j h1 hx hi
      simp only [Option.bind_eq_some_iff] at he
      obtain ⟨k, h2, he⟩ := he
      split at he
      · rename_i h3
        simp only [Bool.and_eq_true] at h3
        simp only [Option.some.injEq] at he
        subst he
        exact sound_indexAddr_ints E hR ho h1 h3.1 (beq_of h3.2) hx hi h2 hq _
      · cases he
    · cases he
  · rename_i t x i ho
    split at he
    · rename_i l j h1 hx hi
      simp only [Option.bind_eq_some_iff, Option.some.injEq] at he
      obtain ⟨k, h2, rfl⟩ := he
      obtain ⟨ex, hl⟩ := ev_rep hR hx
      obtain ⟨kk, h4, h5⟩ := ivOf_rep (ev_rep hR hi) h2
      obtain ⟨i0, i1⟩ := idx_ok hq
      exact Sound.pure hR (exec_index_str E ho h1 ex h4 i0 i1) rfl
    · rename_i n e1 m l j h1 hx hi
      simp only [Option.bind_eq_some_iff] at he
      obtain ⟨k, h2, he⟩ := he
      split at he
      · rename_i h3
        simp only [Bool.and_eq_true] at h3
        obtain ⟨kk, h4⟩ := litNat_rep (ev_rep hR hi) h2
        obtain ⟨cs, ex, rl⟩ := ev_rep hR hx
        have e2 := E.ty t; rw [h1] at e2
        refine Sound.bindPure hR he fun d hd => ?_
        obtain ⟨v, k1, k2⟩ := run_part E h3.2 rl hd
        have hlt := blt_of h3.1
        have h6 : (0 : Int) ≤ k ∧ (k : Int) < n := ⟨by omega, by omega⟩
        exact ⟨v, by simp [execOp, ho, Instr.index, h4, asIntOf, run_underlying e2.1, ex, h6, hlt, run_sizeOf E h3.2, k1], k2⟩
      · cases he
    · cases he
  · rename_i x i ho
    split at he
    · rename_i l hx; exact sound_extract hR ho hx he
    · cases he
  · rename_i k ho
    split at he
    · rename_i f hf
      have hd0 : ∀ b n, dieE c s f k.args.toList = some (b, n) → b.lb = false := fun b n h => hdie b n (by simp only [dieOf, ho, hf]; exact h)
      unfold callE at he
      unfold dieE at hd0
      split at he
      · rename_i m hlt
        simp only [hlt] at hd0
        simp only [Option.bind_eq_some_iff] at he
        obtain ⟨q, h1, l, h2, r, h3, he⟩ := he
        split at he
        · rename_i h4
          simp only [Bool.and_eq_true] at h4
          simp only [Option.some.injEq] at he
          subst he
          exact sound_callm E hR ho hf hlt h1 h2 (fun b n h => hd0 b n (by simp [h1, h2, h])) h3 h4.1 h4.2.1 hq
        · cases he
      · rename_i hlt
        simp only [hlt] at hd0
        simp only [Option.bind_eq_some_iff] at he
        obtain ⟨l, h1, r, h2, he⟩ := he
        split at he
        · rename_i h3
          simp only [Option.some.injEq] at he
          subst he
          exact sound_call E hR ho hf hlt h1 (fun b n h => hd0 b n (by simp [h1, h])) h2 h3 hq
        · cases he
    · rename_i hf
      split at he
      · rename_i x t ts hl ht
        have ho' : o.op = .call { callee := .builtin .len, args := #[x], argTypes := k.argTypes } := by
          rw [ho]
          obtain ⟨callee, args, ats⟩ := k
          simp only at hf hl
          subst hf
          have : args = #[x] := by apply Array.ext'; simpa using hl
          rw [this]
        have ht' : k.argTypes[0]? = some t := by rw [← Array.getElem?_toList, ht]; rfl
        split at he
        · rename_i l hx h1
          obtain ⟨ex, hl⟩ := ev_rep hR hx
          exact Sound.pureS hR he (exec_len E ho' ex ht' (.inl ⟨l, h1, rfl, rfl⟩)) ⟨rfl, inR_len hl⟩
        · rename_i l fl e1 hx h1
          obtain ⟨p, cap, ex, hl, _⟩ := ev_rep hR hx
          exact Sound.pureS hR he (exec_len E ho' ex ht' (.inr ⟨_, p, cap, h1, rfl⟩)) ⟨rfl, inR_len hl⟩
        · rename_i l e1 hx h1
          obtain ⟨p, cap, ex, hl, _⟩ := ev_rep hR hx
          exact Sound.pureS hR he (exec_len E ho' ex ht' (.inr ⟨_, p, cap, h1, rfl⟩)) ⟨rfl, inR_len hl⟩
        · rename_i l e1 hx h1
          obtain ⟨p, cap, ex, hl, _⟩ := ev_rep hR hx
          exact Sound.pureS hR he (exec_len E ho' ex ht' (.inr ⟨_, p, cap, h1, rfl⟩)) ⟨rfl, inR_len hl⟩
        · rename_i n off len cap e1 hx h1
          obtain ⟨b, hb, ex, hl⟩ := ev_rep hR hx
          exact Sound.pureS hR he (exec_len E ho' ex ht' (.inr ⟨_, _, cap, h1, rfl⟩)) ⟨rfl, inR_len hl⟩
        · cases he
      · cases he
    · rename_i hf; exact sound_copy E hR ho hf he hq
    · rename_i hf; exact sound_minmax hR false ho hf he
    · rename_i hf; exact sound_minmax hR true ho hf he
    · cases he
  · cases he
end
end Go.Adit

namespace Go.Adit
open Go.RowKit

def D.nm : D → List Nat
  | .s x => x.names
  | .agg l => l.flatMap SC.names
  | .tup _ => []

structure WF (s : St) : Prop where
  t : ∀ t d, s.t t = some d → ∀ n ∈ d.nm, s.m n ≠ none
  m : ∀ n b, s.m n = some b → flats b.cells = true

theorem flat_names {x : SC} (h : x.flat = true) : x.names = [] := by cases x <;> simp [SC.flat] at h <;> rfl

theorem flats_names : ∀ {l : List SC}, flats l = true → l.flatMap SC.names = []
  | [], _ => rfl
  | x :: l, h => by
    simp only [flats, List.all_cons, Bool.and_eq_true] at h
    simp [flat_names h.1, flats_names (l := l) h.2]

theorem clean_flat {x : SC} (h : x.clean = true) : x.flat = true := by
  cases x <;> simp [SC.clean] at h <;> rfl

theorem cleanT_nm {d : D} (h : d.cleanT = true) : d.nm = [] := by
  cases d with
  | s x => exact flat_names (clean_flat h)
  | agg l =>
    refine flats_names ?_
    simp only [flats, List.all_eq_true]
    simp only [D.cleanT, D.clean, List.all_eq_true] at h
    exact fun x hx => clean_flat (h x hx)
  | tup l => rfl

theorem clean_nm {d : D} (h : d.clean = true) : d.nm = [] := by
  cases d with
  | tup l => rfl
  | s x => exact cleanT_nm (d := .s x) h
  | agg l => exact cleanT_nm (d := .agg l) h

theorem ofValue_flat {v : Value} {x : SC} (h : ofValue v = some x) : x.names = [] := by
  cases v <;> simp [ofValue] at h
  case bool => subst h; rfl
  case int => obtain ⟨_, rfl⟩ := h; rfl
  case string => obtain ⟨_, rfl⟩ := h; rfl
  case pointer a => cases a <;> simp at h; subst h; rfl

section
variable {s : St} {c : Cfg} {z : Zs}

theorem ev_nm (h : WF s) {x : Operand} {d : D} (he : ev s x = some d) : ∀ n ∈ d.nm, s.m n ≠ none := by
  cases x with
  | tmp t => exact h.t t d he
  | const v =>
    simp only [ev, Option.map_eq_some_iff] at he
    obtain ⟨y, h1, rfl⟩ := he
    simp [D.nm, ofValue_flat h1]
  | func f => simp only [ev, Option.some.injEq] at he; subst he; simp [D.nm, SC.names]
  | global g => simp [ev] at he

theorem takeN_mem : ∀ {n : Nat} {l r : List SC}, takeN n l = some r → ∀ x ∈ r, x ∈ l
  | 0, l, r, h => by simp [takeN] at h; subst h; simp
  | n + 1, [], r, h => by simp [takeN] at h
  | n + 1, y :: l, r, h => by
    simp only [takeN, Option.map_eq_some_iff] at h
    obtain ⟨r', h1, rfl⟩ := h
    intro x hx
    rcases List.mem_cons.1 hx with rfl | hx
    · simp
    · exact List.mem_cons_of_mem _ (takeN_mem h1 x hx)

theorem dropN_mem : ∀ {n : Nat} {l : List SC}, ∀ x ∈ dropN n l, x ∈ l
  | 0, l, x, h => h
  | n + 1, [], x, h => by simp [dropN] at h
  | n + 1, y :: l, x, h => List.mem_cons_of_mem _ (dropN_mem (n := n) (l := l) x h)

theorem partOf_nm {t : Ty} {l : List SC} {off : Nat} {d : D} (h : partOf t l off = some d) : ∀ n ∈ d.nm, n ∈ l.flatMap SC.names := by
  unfold partOf at h
  split at h
  · simp only [Option.map_eq_some_iff] at h
    obtain ⟨r, h1, rfl⟩ := h
    intro n hn
    simp only [D.nm, List.mem_flatMap] at hn ⊢
    obtain ⟨x, hx, hn⟩ := hn
    exact ⟨x, dropN_mem x (takeN_mem h1 x hx), hn⟩
  · split at h
    · rename_i x l' hl
      simp only [Option.some.injEq] at h
      subst h
      intro n hn
      simp only [D.nm] at hn
      rw [List.mem_flatMap]
      exact ⟨x, dropN_mem (n := off) x (by rw [hl]; simp), hn⟩
    · cases h

theorem setAt_mem : ∀ {l r l' : List SC} (n : Nat), setAt l n r = some l' → ∀ x ∈ l', x ∈ l ∨ x ∈ r
  | l, [], l', 0, h, x, hx => by simp [setAt] at h; subst h; exact .inl hx
  | y :: l, u :: r, l', 0, h, x, hx => by
    simp only [setAt, Option.map_eq_some_iff] at h
    obtain ⟨l1, h1, rfl⟩ := h
    rcases List.mem_cons.1 hx with rfl | hx
    · exact .inr (by simp)
    · exact (setAt_mem 0 h1 x hx).imp (List.mem_cons_of_mem _) (List.mem_cons_of_mem _)
  | y :: l, r, l', n + 1, h, x, hx => by
    have h' : (setAt l n r).map (y :: ·) = some l' := by cases r <;> simpa [setAt] using h
    simp only [Option.map_eq_some_iff] at h'
    obtain ⟨l1, h1, rfl⟩ := h'
    rcases List.mem_cons.1 hx with rfl | hx
    · exact .inl (by simp)
    · exact (setAt_mem n h1 x hx).imp (List.mem_cons_of_mem _) id
  | [], _ :: _, _, 0, h, _, _ => by simp [setAt] at h
  | [], r, _, n + 1, h, _, _ => by cases r <;> simp [setAt] at h

theorem cellsOf_nm {d : D} {l : List SC} (h : cellsOf d = some l) : l.flatMap SC.names = d.nm := by
  cases d <;> simp [cellsOf] at h <;> subst h <;> simp [D.nm]

theorem fill_nm (h : WF s) {place : Nat → Option (Nat × Nat)} : ∀ {ps : List (Nat × Operand)} {l l' : List SC}, fillParts place s l ps = some l' → (∀ n ∈ l.flatMap SC.names, s.m n ≠ none) →
    ∀ n ∈ l'.flatMap SC.names, s.m n ≠ none
  | [], l, l', hf, hl => by simp [fillParts] at hf; subst hf; exact hl
  | (i, x) :: r, l, l', hf, hl => by
    simp only [fillParts] at hf
    split at hf
    · rename_i off size ds h1 h2
      split at hf
      · simp only [Option.bind_eq_some_iff] at hf h2
        obtain ⟨l1, h4, h5⟩ := hf
        obtain ⟨d, h6, h7⟩ := h2
        refine fill_nm h h5 fun n hn => ?_
        rw [List.mem_flatMap] at hn
        obtain ⟨y, hy, hn⟩ := hn
        rcases setAt_mem off h4 y hy with hy | hy
        · exact hl n (List.mem_flatMap.2 ⟨y, hy, hn⟩)
        · refine ev_nm h h6 n ?_
          rw [← cellsOf_nm h7]
          exact List.mem_flatMap.2 ⟨y, hy, hn⟩
      · cases hf
    · cases hf

/-- the zero values bear no names -/
def ZeroFlat (c : Cfg) (z : Zs) : Prop := ∀ t l, zeroCells c z.ext z.strs z.ints 20 t = some l → flats l = true

/-- what an operation hands back names blocks that are there, or the one that it makes; what it lays is flat -/
def EffOK (s : St) (e : Eff) : Prop :=
  (∀ n ∈ e.val.nm, s.m n ≠ none ∨ ∃ b, e.blk = some (n, b)) ∧ (∀ n b, e.blk = some (n, b) → flats b.cells = true)

theorem EffOK.pure {d : D} {l : List Bool} (h : ∀ n ∈ d.nm, s.m n ≠ none) : EffOK s ⟨d, none, l⟩ :=
  ⟨fun n hn => .inl (h n hn), fun _ _ h => by cases h⟩

theorem EffOK.pureS {x : SC} {e : Eff} (he : pureS x = some e) (h : ∀ n ∈ x.names, s.m n ≠ none) : EffOK s e := by
  simp only [Go.Adit.pureS, Option.some.injEq] at he
  subst he
  exact EffOK.pure h

theorem EffOK.bindPure {x : Option D} {e : Eff} (he : x.bind pureV = some e) (h : ∀ d, x = some d → ∀ n ∈ d.nm, s.m n ≠ none) : EffOK s e := by
  cases x with
  | none => simp at he
  | some d => simp only [Option.bind_some, pureV, Option.some.injEq] at he; subst he; exact EffOK.pure (h d rfl)

theorem EffOK.new {d : Nat} {x : SC} {b : Blk} {l : List Bool} (hx : x.names = [d]) (hb : flats b.cells = true) : EffOK s ⟨.s x, some (d, b), l⟩ :=
  ⟨fun m hm => .inr ⟨b, by simp only [D.nm, hx, List.mem_singleton] at hm; subst hm; rfl⟩, fun _ _ h => by cases h; exact hb⟩

theorem nm_nil {x : SC} (h : x.names = []) : ∀ n ∈ x.names, s.m n ≠ none := by rw [h]; intro n hn; cases hn

theorem binop_eff {t : Nat} {op : BinOp} {x y : D} {e : Eff} (he : binop c z t op x y = some e) : EffOK s e := by
  have hI : ∀ k k' m n, binopI op k k' m n = some e → EffOK s e := by
    intro k k' m n h
    unfold binopI at h
    split at h
    · simp only [Option.bind_eq_some_iff, Option.some.injEq] at h; obtain ⟨r, _, rfl⟩ := h; exact EffOK.pure (fun n hn => by cases hn)
    · exact EffOK.pureS h (nm_nil rfl)
    · simp only [Option.bind_eq_some_iff, Option.some.injEq] at h; obtain ⟨r, _, rfl⟩ := h; exact EffOK.pure (fun n hn => by cases hn)
    · cases h
  unfold binop at he
  split at he
  · split at he
    · split at he
      · simp only [Option.bind_eq_some_iff] at he; obtain ⟨v, _, he⟩ := he; exact EffOK.pureS he (nm_nil rfl)
      · cases he
    · cases he
  · split at he
    · simp only [Option.some.injEq] at he; subst he; exact EffOK.pure (fun n hn => by cases hn)
    · split at he
      · exact EffOK.pureS he (nm_nil rfl)
      · cases he
  · split at he
    · exact EffOK.pureS he (nm_nil rfl)
    · cases he
  · split at he
    · exact EffOK.pureS he (nm_nil rfl)
    · cases he
  · split at he
    · exact hI _ _ _ _ he
    · cases he
  · cases he

theorem copyInto_flat {b : List UInt8} : ∀ {l r : List SC} {i : Nat}, copyInto b i l = some r → r.all SC.flat = true
  | [], r, i, h => by simp [copyInto] at h; subst h; rfl
  | x :: l, r, i, h => by
    simp only [copyInto] at h
    split at h
    · simp only [Option.map_eq_some_iff] at h
      obtain ⟨r', h1, rfl⟩ := h
      simp [SC.flat, copyInto_flat h1]
    · cases h

theorem minmax_eff {mx : Bool} {l : List Operand} {e : Eff} (he : minmax mx s l = some e) : EffOK s e := by
  unfold minmax at he
  split at he
  · split at he
    · split at he
      · split at he
        · exact EffOK.pureS he (nm_nil rfl)
        · cases he
      · cases he
    · cases he
  · cases he

theorem opEval_eff (hz : ZeroFlat c z) (h : WF s) {o : Oper} {e : Eff} (he : opEval c z s o = some e) : EffOK s e := by
  unfold opEval at he
  split at he
  · exact EffOK.bindPure he fun d hd => ev_nm h hd
  · exact EffOK.bindPure he fun d hd => ev_nm h hd
  · split at he
    · exact EffOK.bindPure he fun d hd => ev_nm h hd
    · exact EffOK.bindPure he fun d hd => ev_nm h hd
    · cases he
  · split at he
    · rename_i d l h1 h2
      simp only [Option.some.injEq] at he; subst he; exact EffOK.new (d := d) rfl (hz _ _ h2)
    · cases he
  · split at he
    · rename_i d l h1 h2
      split at he
      · rename_i hf; simp only [Option.some.injEq] at he; subst he; exact EffOK.new (d := d) rfl hf
      · cases he
    · cases he
  · split at he
    · rename_i fs n l h1 h2
      split at he
      · simp only [Option.map_eq_some_iff] at he
        obtain ⟨r, h4, rfl⟩ := he
        exact EffOK.pure (fill_nm h h4 (by rw [flats_names (hz _ _ h2)]; simp))
      · cases he
    · rename_i n e1 m l h1 h2
      split at he
      · simp only [Option.map_eq_some_iff] at he
        obtain ⟨r, h4, rfl⟩ := he
        exact EffOK.pure (fill_nm h h4 (by rw [flats_names (hz _ _ h2)]; simp))
      · cases he
    · cases he
  · split at he
    · rename_i e1 d h1 h2
      split at he
      · simp only [Option.bind_eq_some_iff] at he
        obtain ⟨r, h4, he⟩ := he
        split at he
        · rename_i h5
          simp only [Bool.and_eq_true] at h5
          simp only [Option.some.injEq] at he; subst he; exact EffOK.new (d := d) rfl h5.1
        · cases he
      · cases he
    · cases he
  · split at he
    · split at he
      · rename_i blk hm
        split at he
        · exact EffOK.bindPure he fun d hd n hn => by
            have := partOf_nm hd n hn
            rw [flats_names (h.m _ _ hm)] at this
            cases this
        · cases he
      · cases he
    · split at he
      · simp only [pureV, Option.some.injEq] at he; subst he; exact EffOK.pure (by simp [D.nm, SC.names])
      · exact EffOK.pureS he (nm_nil rfl)
      · exact EffOK.pureS he (nm_nil rfl)
      · cases he
    · split at he
      · exact EffOK.pureS he (nm_nil rfl)
      · cases he
    · split at he
      · exact EffOK.pureS he (nm_nil rfl)
      · cases he
    · cases he
  · split at he
    · split at he
      · rename_i blk hm
        split at he
        · rename_i h1
          simp only [Bool.and_eq_true] at h1
          simp only [Option.map_eq_some_iff] at he
          obtain ⟨l', h2, rfl⟩ := he
          exact ⟨fun n hn => (by cases hn), fun _ _ hb => (by cases hb; exact setAt_flats _ (h.m _ _ hm) h1.2.2 h2)⟩
        · cases he
      · cases he
    · cases he
  · split at he
    · rename_i n off hx
      exact EffOK.pureS he (ev_nm h hx)
    · cases he
  · split at he
    · exact binop_eff he
    · cases he
  · split at he
    · exact EffOK.pureS he (nm_nil rfl)
    · exact EffOK.pureS he (nm_nil rfl)
    · cases he
  · split at he
    · simp only [Option.bind_eq_some_iff] at he; obtain ⟨r, _, he⟩ := he; exact EffOK.pureS he (nm_nil rfl)
    · split at he
      · split at he
        · simp only [Option.bind_eq_some_iff] at he; obtain ⟨r, _, he⟩ := he; exact EffOK.pureS he (nm_nil rfl)
        · cases he
      · cases he
    · cases he
  · split at he
    · split at he
      · simp only [Option.some.injEq] at he; subst he; exact EffOK.pure (by simp [D.nm, SC.names])
      · cases he
    · rename_i hx
      split at he
      · split at he
        · exact EffOK.pureS he (by have := ev_nm h hx; exact this)
        · cases he
      · cases he
    · cases he
  · split at he
    · rename_i hx
      simp only [Option.bind_eq_some_iff] at he
      obtain ⟨p, _, he⟩ := he
      split at he
      · exact EffOK.pureS he (by have := ev_nm h hx; exact this)
      · cases he
    · simp only [Option.bind_eq_some_iff] at he
      obtain ⟨p, _, he⟩ := he
      split at he
      · exact EffOK.pureS he (nm_nil rfl)
      · cases he
    · cases he
  · split at he
    · rename_i hx
      simp only [Option.bind_eq_some_iff] at he
      obtain ⟨p, _, he⟩ := he
      split at he
      · exact EffOK.bindPure he fun d hd n hn => ev_nm h hx n (partOf_nm hd n hn)
      · cases he
    · cases he
  · split at he
    · rename_i hx hi
      simp only [Option.bind_eq_some_iff] at he
      obtain ⟨k, _, he⟩ := he
      split at he
      · exact EffOK.pureS he (by have := ev_nm h hx; exact this)
      · cases he
    all_goals first
      | cases he
      | (simp only [Option.bind_eq_some_iff] at he
         obtain ⟨k, _, he⟩ := he
         split at he
         · simp only [Option.some.injEq] at he; subst he; exact EffOK.pure (by simp [D.nm, SC.names])
         · cases he)
  · split at he
    · simp only [Option.bind_eq_some_iff, Option.some.injEq] at he
      obtain ⟨k, _, rfl⟩ := he
      exact EffOK.pure (by simp [D.nm, SC.names])
    · rename_i hx hi
      simp only [Option.bind_eq_some_iff] at he
      obtain ⟨k, _, he⟩ := he
      split at he
      · exact EffOK.bindPure he fun d hd n hn => ev_nm h hx n (partOf_nm hd n hn)
      · cases he
    · cases he
  · split at he
    · refine EffOK.bindPure he fun d hd => ?_
      simp only [Option.bind_eq_some_iff] at hd
      obtain ⟨d', _, h2⟩ := hd
      split at h2
      · rename_i hc
        simp only [Option.some.injEq] at h2
        subst h2
        rw [clean_nm hc]
        simp
      · cases h2
    · cases he
  · split at he
    · unfold callE at he
      split at he
      · simp only [Option.bind_eq_some_iff] at he
        obtain ⟨q, _, l, _, r, _, he⟩ := he
        split at he
        · rename_i h3
          simp only [Bool.and_eq_true] at h3
          simp only [Option.some.injEq] at he; subst he
          refine ⟨fun n hn => (by rw [cleanT_nm h3.1] at hn; cases hn), fun n b h => ?_⟩
          cases h
          simp only [flats, List.all_eq_true] at h3 ⊢
          exact fun x hx => clean_flat (h3.2.1 x hx)
        · cases he
      · simp only [Option.bind_eq_some_iff] at he
        obtain ⟨l, _, r, _, he⟩ := he
        split at he
        · rename_i h3
          simp only [Option.some.injEq] at he; subst he; exact EffOK.pure (by rw [cleanT_nm h3]; simp)
        · cases he
    · split at he
      · split at he <;> first
          | exact EffOK.pureS he (nm_nil rfl)
          | cases he
      · cases he
    · unfold copyE at he
      split at he
      · split at he
        · split at he
          · rename_i hm
            simp only [Option.bind_eq_some_iff, Option.map_eq_some_iff] at he
            obtain ⟨new, ⟨old, _, h8⟩, l', h9, rfl⟩ := he
            refine ⟨fun n hn => (by simp [D.nm, SC.names] at hn), fun n b hb => ?_⟩
            cases hb
            exact setAt_flats _ (h.m _ _ hm) (copyInto_flat h8) h9
          · cases he
        · cases he
      · cases he
    · exact minmax_eff he
    · exact minmax_eff he
    · cases he
  · cases he
end
end Go.Adit

namespace Go.Adit
open Go.RowKit

/-- 0: looks at its operands alone · 1: looks into memory · 2: makes a block · 3: writes -/
def opCls (c : Cfg) : Op → Nat
  | .move _ | .assign _ | .pick .. | .build .. | .binOp .. | .unOp .. | .fieldAddr .. | .field .. | .indexAddr .. | .index .. | .extract .. | .slice .. | .nilCheck _ => 0
  | .convert .. | .load .. => 1
  | .call k => match k.callee with
    | .value (.func f) => match c.lent f with
      | none => 1
      | some _ => 3
    | .builtin .copy => 3
    | _ => 1
  | .alloc _ | .box .. | .buildSlice .. => 2
  | .store .. => 3
  | _ => 4

section
variable {c : Cfg} {z : Zs} {s s' : St}

theorem fill_congr {place : Nat → Option (Nat × Nat)} : ∀ {ps : List (Nat × Operand)} {l : List SC}, (∀ p ∈ ps, ev s p.2 = ev s' p.2) → fillParts place s l ps = fillParts place s' l ps
  | [], _, _ => rfl
  | (i, x) :: r, l, h => by
    have hx : ev s x = ev s' x := h (i, x) (by simp)
    have ih : ∀ l', fillParts place s l' r = fillParts place s' l' r := fun l' => fill_congr fun p hp => h p (List.mem_cons_of_mem _ hp)
    simp only [fillParts, hx, ih]

theorem argOf_congr {d : D} (h : ∀ n ∈ d.nm, s.m n = s'.m n) : argOf s d = argOf s' d := by
  cases d with
  | agg l => rfl
  | tup l => rfl
  | s x => cases x <;> first
    | rfl
    | (simp only [argOf]; rw [h _ (by simp [D.nm, SC.names])])

theorem args_congr : ∀ {l : List Operand}, (∀ x ∈ l, ev s x = ev s' x) → (∀ x ∈ l, ∀ d, ev s x = some d → ∀ n ∈ d.nm, s.m n = s'.m n) → argsOf s l = argsOf s' l
  | [], _, _ => rfl
  | x :: l, h1, h2 => by
    simp only [argsOf]
    rw [args_congr (fun y hy => h1 y (List.mem_cons_of_mem _ hy)) (fun y hy => h2 y (List.mem_cons_of_mem _ hy))]
    have : (ev s x).bind (argOf s) = (ev s' x).bind (argOf s') := by
      rw [← h1 x (by simp)]
      cases hx : ev s x with
      | none => rfl
      | some d => exact argOf_congr (h2 x (by simp) d hx)
    rw [this]

theorem flat_congr : ∀ {l : List Operand}, (∀ x ∈ l, ev s x = ev s' x) → argsFlat s l = argsFlat s' l
  | [], _ => rfl
  | x :: l, h1 => by
    simp only [argsFlat]
    rw [flat_congr (fun y hy => h1 y (List.mem_cons_of_mem _ hy)), h1 x (by simp)]

theorem lentOf_congr {m : Nat} {l : List Operand} (h1 : ∀ x ∈ l, ev s x = ev s' x) (h2 : ∀ x ∈ l, ∀ d, ev s x = some d → ∀ n ∈ d.nm, s.m n = s'.m n) : lentOf m s l = lentOf m s' l := by
  cases l with
  | nil => rfl
  | cons x r =>
    simp only [lentOf]
    rw [← h1 x (by simp)]
    split
    · rename_i n off hx
      rw [h2 x (by simp) _ hx n (by simp [D.nm, SC.names])]
    · rfl

theorem lentOf_args {m : Nat} {l : List Operand} {q : Nat × Blk × List Operand} (h : lentOf m s l = some q) : ∀ x ∈ q.2.2, x ∈ l := by
  cases l with
  | nil => simp [lentOf] at h
  | cons x r =>
    simp only [lentOf] at h
    split at h
    · split at h
      · split at h
        · simp only [Option.some.injEq] at h; subst h; exact fun x hx => List.mem_cons_of_mem _ hx
        · cases h
      · cases h
    · cases h

theorem callE_congr {f : Nat} {l : List Operand} (h1 : ∀ x ∈ l, ev s x = ev s' x) (h2 : ∀ x ∈ l, ∀ d, ev s x = some d → ∀ n ∈ d.nm, s.m n = s'.m n) : callE c s f l = callE c s' f l := by
  unfold callE
  rw [args_congr h1 h2]
  split
  · rename_i m hm
    rw [← lentOf_congr h1 h2]
    cases hq : lentOf m s l with
    | none => rfl
    | some q => simp only [Option.bind_some]; rw [flat_congr fun x hx => h1 x (lentOf_args hq x hx)]
  · rfl

theorem dieE_congr {f : Nat} {l : List Operand} (h1 : ∀ x ∈ l, ev s x = ev s' x) (h2 : ∀ x ∈ l, ∀ d, ev s x = some d → ∀ n ∈ d.nm, s.m n = s'.m n) : dieE c s f l = dieE c s' f l := by
  unfold dieE
  rw [args_congr h1 h2]
  split
  · rename_i m hm
    rw [← lentOf_congr h1 h2]
    cases hq : lentOf m s l with
    | none => rfl
    | some q => simp only [Option.bind_some]; rw [flat_congr fun x hx => h1 x (lentOf_args hq x hx)]
  · rfl

theorem copyE_congr {l : List Operand} {ts : List Nat} (h1 : ∀ x ∈ l, ev s x = ev s' x) (h2 : ∀ x ∈ l, ∀ d, ev s x = some d → ∀ n ∈ d.nm, s.m n = s'.m n) : copyE c s l ts = copyE c s' l ts := by
  unfold copyE
  split
  · rw [← h1 _ (.head _), ← h1 _ (.tail _ (.head _))]
    split
    · rename_i hx _
      rw [h2 _ (.head _) _ hx _ (by simp [D.nm, SC.names])]
    · rfl
  · rfl

theorem minmax_congr {mx : Bool} {l : List Operand} (h : ∀ x ∈ l, ev s x = ev s' x) : minmax mx s l = minmax mx s' l := by
  unfold minmax
  split
  · rw [h _ (by simp), h _ (by simp)]
  · rfl

theorem opEval_congr {o : Oper} (h4 : opCls c o.op ≠ 4) (hev : ∀ x ∈ o.op.operands, ev s x = ev s' x)
    (hm : opCls c o.op = 0 ∨ opCls c o.op = 2 ∨ ∀ x ∈ o.op.operands, ∀ d, ev s x = some d → ∀ n ∈ d.nm, s.m n = s'.m n) : opEval c z s o = opEval c z s' o := by
  obtain ⟨dst, op, ty, pos, af, g⟩ := o
  cases op <;> simp [opCls] at h4 <;> simp only [opEval, opCls, Op.operands] at hev hm ⊢
  case move x => rw [hev x (by simp)]
  case assign x => rw [hev x (by simp)]
  case pick k x y => rw [hev k (by simp), hev x (by simp), hev y (by simp)]
  case box t x => rw [hev x (by simp)]
  case build t ps =>
    have hp : ∀ p ∈ ps.toList, ev s p.2 = ev s' p.2 := fun p hp => hev p.2 (by simp; exact ⟨p.1, by simpa using hp⟩)
    have := fun place l => fill_congr (place := place) (l := l) hp
    simp only [this]
  case buildSlice t n ps =>
    have hp : ∀ p ∈ ps.toList, ev s p.2 = ev s' p.2 := fun p hp => hev p.2 (by simp; exact ⟨p.1, by simpa using hp⟩)
    have := fun place l => fill_congr (place := place) (l := l) hp
    simp only [this]
  case load t x =>
    have hm' := hm.resolve_left (by decide) |>.resolve_left (by decide)
    rw [← hev x (by simp)]
    cases hx : ev s x with
    | none => rfl
    | some d =>
      cases d with
      | s y =>
        cases y with
        | ptr n off => simp only; rw [hm' x (by simp) _ hx n (by simp [D.nm, SC.names])]
        | _ => rfl
      | _ => rfl
  case store t x y =>
    have hm' := hm.resolve_left (by decide) |>.resolve_left (by decide)
    rw [← hev x (by simp), ← hev y (by simp)]
    cases hx : ev s x with
    | none => rfl
    | some d =>
      cases d with
      | s u =>
        cases u with
        | ptr n off =>
          have e := hm' x (by simp) _ hx n (by simp [D.nm, SC.names])
          cases (ev s y).bind cellsOf with
          | none => rfl
          | some cs => simp only [e]
        | _ => rfl
      | _ => rfl
  case nilCheck x => rw [hev x (by simp)]
  case binOp op t x y t' => rw [hev x (by simp), hev y (by simp)]
  case unOp op t x => rw [hev x (by simp)]
  case convert src dst' x =>
    have hm' := hm.resolve_left (by decide) |>.resolve_left (by decide)
    rw [← hev x (by simp)]
    have key : ∀ n off len cap, ev s x = some (.s (.lsl n off len cap)) → s.m n = s'.m n := fun n off len cap hx => hm' x (by simp) _ hx n (by simp [D.nm, SC.names])
    split
    · rfl
    · rename_i hx
      rw [key _ _ _ _ hx]
    · rfl
  case slice t x lo hi mx =>
    cases mx with
    | some m => rfl
    | none =>
      simp only
      rw [hev x (by simp)]
      have h1 : lo.map (ev s) = lo.map (ev s') := by cases lo with | none => rfl | some y => simp [hev y (by simp)]
      have h2 : hi.map (ev s) = hi.map (ev s') := by cases hi with | none => rfl | some y => simp [hev y (by simp)]
      rw [h1, h2]
  case fieldAddr t x f => rw [hev x (by simp)]
  case field t x f => rw [hev x (by simp)]
  case indexAddr t x i => rw [hev x (by simp), hev i (by simp)]
  case index t x i => rw [hev x (by simp), hev i (by simp)]
  case extract x i => rw [hev x (by simp)]
  case call k =>
    have hm' : ∀ x ∈ k.operands, ∀ d, ev s x = some d → ∀ n ∈ d.nm, s.m n = s'.m n := by
      rcases hm with h | h | h
      · exfalso; revert h; split
        · split <;> simp
        · simp
        · simp
      · exfalso; revert h; split
        · split <;> simp
        · simp
        · simp
      · exact h
    have hargs : ∀ x ∈ k.args.toList, x ∈ k.operands := fun x hx => by simp [Call.operands]; right; simpa using hx
    rw [minmax_congr (fun x hx => hev x (hargs x hx)), minmax_congr (fun x hx => hev x (hargs x hx))]
    split
    · exact callE_congr (fun x hx => hev x (hargs x hx)) (fun x hx => hm' x (hargs x hx))
    · split
      · rename_i x t ts hl ht
        rw [hev x (hargs x (by rw [hl]; simp))]
      · rfl
    · exact copyE_congr (fun x hx => hev x (hargs x hx)) (fun x hx => hm' x (hargs x hx))
    · rfl
    · rfl
    · rfl

theorem dieOf_congr {o : Oper} (hev : ∀ x ∈ o.op.operands, ev s x = ev s' x)
    (hm : opCls c o.op = 0 ∨ opCls c o.op = 2 ∨ ∀ x ∈ o.op.operands, ∀ d, ev s x = some d → ∀ n ∈ d.nm, s.m n = s'.m n) : dieOf c s o = dieOf c s' o := by
  obtain ⟨dst, op, ty, pos, af, g⟩ := o
  unfold dieOf
  cases op <;> try rfl
  case call k =>
    simp only [opCls, Op.operands] at hev hm ⊢
    have hm' : ∀ x ∈ k.operands, ∀ d, ev s x = some d → ∀ n ∈ d.nm, s.m n = s'.m n := by
      rcases hm with h | h | h
      · exfalso; revert h; split
        · split <;> simp
        · simp
        · simp
      · exfalso; revert h; split
        · split <;> simp
        · simp
        · simp
      · exact h
    have hargs : ∀ x ∈ k.args.toList, x ∈ k.operands := fun x hx => by simp [Call.operands]; right; simpa using hx
    split
    · exact dieE_congr (fun x hx => hev x (hargs x hx)) (fun x hx => hm' x (hargs x hx))
    · rfl
end
end Go.Adit

namespace Go.Adit
open Go.RowKit

def indepCls (i j : Nat) : Bool :=
  !(Nat.beq i 4) && (!(Nat.beq j 4) && (!(Nat.beq i 3 && (Nat.beq j 1 || Nat.beq j 3)) && !(Nat.beq j 3 && Nat.beq i 1)))

def indep (c : Cfg) (ops : Array Oper) (x y : Oper) : Bool := x.apart ops y && indepCls (opCls c x.op) (opCls c y.op)

/-- the value that is kept: behind an assumption it is the assumed one, if it is so -/
def valD (asm : List (Nat × Bool)) (i : Nat) (d : D) : Option D :=
  match asmAt asm i with
  | none => some d
  | some v => match d with
    | .s (.bool (.sym b)) => if b = v then some (.s (.bool (.lit v))) else none
    | _ => none

structure Del where
  val : D
  blk : Option (Nat × Blk)

def deadNow : Option (BV × Int) → Option Int
  | none => none
  | some (b, n) => match b.lb with
    | true => some n
    | false => none

def dkAt : Option (Nat × Int) → Nat → Option Int
  | none, _ => none
  | some (k, n), i => if i = k then some n else none

def del (c : Cfg) (z : Zs) (ops : Array Oper) (asm : List (Nat × Bool)) (dk : Option (Nat × Int)) (i : Nat) (o : Oper) (s : St) : Option Del :=
  match guardOf ops s o with
  | .bad => none
  | .skip => if dkAt dk i = none then some ⟨.tup [], none⟩ else none
  | .run => if deadNow (dieOf c s o) = dkAt dk i then
      (opEval c z s o).bind fun e => if e.req.all id then (match dieOf c s o with | none => valD asm i e.val | some _ => some e.val).map fun d => ⟨d, e.blk⟩ else none
    else none

def stepD (c : Cfg) (z : Zs) (ops : Array Oper) (asm : List (Nat × Bool)) (dk : Option (Nat × Int)) (i : Nat) (o : Oper) (s : St) : Option St :=
  (del c z ops asm dk i o s).bind fun x => put2 c s o x.val x.blk

def upT (t : Nat → Option D) (dst : Option Nat) (v : D) : Nat → Option D := match dst with | none => t | some d => updT t d v
def upM (m : Nat → Option Blk) (b : Option (Nat × Blk)) : Nat → Option Blk := match b with | none => m | some x => updM m x.1 x.2

section
variable {c : Cfg} {z : Zs} {s s' : St} {ops : Array Oper} {asm : List (Nat × Bool)} {dk : Option (Nat × Int)}

theorem cls_wr {op : Op} (h : opCls c op = 3) : isWr op = true := by cases op <;> simp [isWr, opCls] at h ⊢

theorem wr_cls {op : Op} (h : isWr op = true) : opCls c op ≠ 2 := by
  cases op <;> simp [isWr] at h <;> simp [opCls]
  split
  · split <;> simp
  · simp
  · simp

theorem opEval_blk {o : Oper} {e : Eff} {n : Nat} {b : Blk} (he : opEval c z s o = some e) (hb : e.blk = some (n, b)) :
    (opCls c o.op = 3 ∧ s.m n ≠ none) ∨ (opCls c o.op = 2 ∧ o.dst = some n) := by
  have pS : ∀ {x : SC}, pureS x = some e → e.blk = none := fun h => by simp only [pureS, Option.some.injEq] at h; subst h; rfl
  have pV : ∀ {x : Option D}, x.bind pureV = some e → e.blk = none := fun {x} h => by
    cases x with
    | none => simp at h
    | some d => simp only [Option.bind_some, pureV, Option.some.injEq] at h; subst h; rfl
  have no : e.blk = none → False := fun h => by rw [h] at hb; cases hb
  unfold opEval at he
  split at he
  · exact (no (pV he)).elim
  · exact (no (pV he)).elim
  · split at he
    · exact (no (pV he)).elim
    · exact (no (pV he)).elim
    · cases he
  · rename_i ho
    split at he
    · rename_i d l h1 h2
      simp only [Option.some.injEq] at he; subst he
      simp only [Option.some.injEq, Prod.mk.injEq] at hb
      exact .inr ⟨by rw [ho]; rfl, by rw [← hb.1]; exact h1⟩
    · cases he
  · rename_i ho
    split at he
    · rename_i d l h1 h2
      split at he
      · simp only [Option.some.injEq] at he; subst he
        simp only [Option.some.injEq, Prod.mk.injEq] at hb
        exact .inr ⟨by rw [ho]; rfl, by rw [← hb.1]; exact h1⟩
      · cases he
    · cases he
  · split at he
    · split at he
      · simp only [Option.map_eq_some_iff] at he; obtain ⟨r, _, rfl⟩ := he; cases hb
      · cases he
    · split at he
      · simp only [Option.map_eq_some_iff] at he; obtain ⟨r, _, rfl⟩ := he; cases hb
      · cases he
    · cases he
  · rename_i ho
    split at he
    · rename_i e1 d h1 h2
      split at he
      · simp only [Option.bind_eq_some_iff] at he
        obtain ⟨r, h4, he⟩ := he
        split at he
        · simp only [Option.some.injEq] at he; subst he
          simp only [Option.some.injEq, Prod.mk.injEq] at hb
          exact .inr ⟨by rw [ho]; rfl, by rw [← hb.1]; exact h2⟩
        · cases he
      · cases he
    · cases he
  · split at he
    · split at he
      · split at he
        · exact (no (pV he)).elim
        · cases he
      · cases he
    · split at he
      · simp only [pureV, Option.some.injEq] at he; subst he; cases hb
      · exact (no (pS he)).elim
      · exact (no (pS he)).elim
      · cases he
    · split at he
      · exact (no (pS he)).elim
      · cases he
    · split at he
      · exact (no (pS he)).elim
      · cases he
    · cases he
  · rename_i ho
    split at he
    · split at he
      · rename_i blk hm
        split at he
        · simp only [Option.map_eq_some_iff] at he
          obtain ⟨l', h2, rfl⟩ := he
          simp only [Option.some.injEq, Prod.mk.injEq] at hb
          exact .inl ⟨by rw [ho]; rfl, by rw [← hb.1, hm]; simp⟩
        · cases he
      · cases he
    · cases he
  · split at he
    · exact (no (pS he)).elim
    · cases he
  · rename_i op t x y t' ho
    split at he
    · rename_i dx dy hx hy
      have hI : ∀ k k' m n, binopI op k k' m n = some e → False := by
        intro k k' m n h
        unfold binopI at h
        split at h
        · simp only [Option.bind_eq_some_iff, Option.some.injEq] at h; obtain ⟨r, _, rfl⟩ := h; cases hb
        · exact no (pS h)
        · simp only [Option.bind_eq_some_iff, Option.some.injEq] at h; obtain ⟨r, _, rfl⟩ := h; cases hb
        · cases h
      unfold binop at he
      split at he
      · split at he
        · split at he
          · simp only [Option.bind_eq_some_iff] at he; obtain ⟨v, _, he⟩ := he; exact (no (pS he)).elim
          · cases he
        · cases he
      · split at he
        · simp only [Option.some.injEq] at he; subst he; cases hb
        · split at he
          · exact (no (pS he)).elim
          · cases he
      · split at he
        · exact (no (pS he)).elim
        · cases he
      · split at he
        · exact (no (pS he)).elim
        · cases he
      · split at he
        · exact (hI _ _ _ _ he).elim
        · cases he
      · cases he
    · cases he
  · split at he
    · exact (no (pS he)).elim
    · exact (no (pS he)).elim
    · cases he
  · split at he
    · simp only [Option.bind_eq_some_iff] at he; obtain ⟨r, _, he⟩ := he; exact (no (pS he)).elim
    · split at he
      · split at he
        · simp only [Option.bind_eq_some_iff] at he; obtain ⟨r, _, he⟩ := he; exact (no (pS he)).elim
        · cases he
      · cases he
    · cases he
  · split at he
    · split at he
      · simp only [Option.some.injEq] at he; subst he; cases hb
      · cases he
    · split at he
      · split at he
        · exact (no (pS he)).elim
        · cases he
      · cases he
    · cases he
  · split at he
    · simp only [Option.bind_eq_some_iff] at he
      obtain ⟨p, _, he⟩ := he
      split at he
      · exact (no (pS he)).elim
      · cases he
    · simp only [Option.bind_eq_some_iff] at he
      obtain ⟨p, _, he⟩ := he
      split at he
      · exact (no (pS he)).elim
      · cases he
    · cases he
  · split at he
    · simp only [Option.bind_eq_some_iff] at he
      obtain ⟨p, _, he⟩ := he
      split at he
      · exact (no (pV he)).elim
      · cases he
    · cases he
  · split at he
    · simp only [Option.bind_eq_some_iff] at he
      obtain ⟨k, _, he⟩ := he
      split at he
      · exact (no (pS he)).elim
      · cases he
    all_goals first
      | (simp only [Option.bind_eq_some_iff] at he
         obtain ⟨k, _, he⟩ := he
         split at he
         · simp only [Option.some.injEq] at he; subst he; cases hb
         · cases he)
      | cases he
  · split at he
    · simp only [Option.bind_eq_some_iff, Option.some.injEq] at he
      obtain ⟨k, _, rfl⟩ := he
      cases hb
    · simp only [Option.bind_eq_some_iff] at he
      obtain ⟨k, _, he⟩ := he
      split at he
      · exact (no (pV he)).elim
      · cases he
    · cases he
  · split at he
    · exact (no (pV he)).elim
    · cases he
  · split at he
    · rename_i k ho _ f hf
      unfold callE at he
      split at he
      · rename_i m hm
        simp only [Option.bind_eq_some_iff] at he
        obtain ⟨q, hq, l, _, r, _, he⟩ := he
        split at he
        · simp only [Option.some.injEq] at he; subst he
          simp only [Option.some.injEq] at hb
          refine .inl ⟨by rw [ho]; simp [opCls, hf, hm], ?_⟩
          have hn : q.1 = n := congrArg Prod.fst hb
          subst hn
          generalize k.args.toList = al at hq
          cases al with
          | nil => simp [lentOf] at hq
          | cons x r =>
            simp only [lentOf] at hq
            split at hq
            · split at hq
              · rename_i hmm _
                split at hq
                · simp only [Option.some.injEq] at hq; subst hq; simp only; rw [hmm]; simp
                · cases hq
              · cases hq
            · cases hq
        · cases he
      · simp only [Option.bind_eq_some_iff] at he
        obtain ⟨l, _, r, _, he⟩ := he
        split at he
        · simp only [Option.some.injEq] at he; subst he; cases hb
        · cases he
    · split at he
      · split at he <;> first
          | exact (no (pS he)).elim
          | cases he
      · cases he
    · rename_i k ho _ hf
      unfold copyE at he
      split at he
      · split at he
        · split at he
          · rename_i hm
            simp only [Option.bind_eq_some_iff, Option.map_eq_some_iff] at he
            obtain ⟨new, _, l', _, rfl⟩ := he
            simp only [Option.some.injEq, Prod.mk.injEq] at hb
            obtain ⟨rfl, rfl⟩ := hb
            exact .inl ⟨by rw [ho]; simp [opCls, hf], by rw [hm]; simp⟩
          · cases he
        · cases he
      · cases he
    · unfold minmax at he
      split at he
      · split at he
        · split at he
          · split at he
            · exact (no (pS he)).elim
            · cases he
          · cases he
        · cases he
      · cases he
    · unfold minmax at he
      split at he
      · split at he
        · split at he
          · split at he
            · exact (no (pS he)).elim
            · cases he
          · cases he
        · cases he
      · cases he
    · cases he
  · cases he

/-- the new block's name was free (or it is a store) -/
def Fresh (o : Oper) (s : St) (b : Option (Nat × Blk)) : Prop := ∀ n k, b = some (n, k) → isWr o.op = true ∨ (s.m n = none ∧ ¬ lentName ≤ n)

theorem put2_iff {o : Oper} {v : D} {b : Option (Nat × Blk)} : put2 c s o v b = some s' ↔ Fresh o s b ∧ (∀ d, o.dst = some d → c.okDst d = true) ∧ s' = ⟨upT s.t o.dst v, upM s.m b⟩ := by
  have hD : ∀ s1 : St, putD c s1 o.dst v = some s' ↔ (∀ d, o.dst = some d → c.okDst d = true) ∧ s' = ⟨upT s1.t o.dst v, s1.m⟩ := by
    intro s1
    cases hd : o.dst with
    | none =>
      simp only [putD, upT, Option.some.injEq]
      exact ⟨fun h => ⟨fun d hd => (by cases hd), h.symm⟩, fun h => h.2.symm⟩
    | some d =>
      simp only [putD, upT]
      by_cases h : c.okDst d = true
      · rw [if_pos h]
        simp only [Option.some.injEq]
        exact ⟨fun e => ⟨fun d' hd => (by cases hd; exact h), e.symm⟩, fun e => e.2.symm⟩
      · rw [if_neg h]
        exact ⟨fun e => (by cases e), fun e => absurd (e.1 d rfl) h⟩
  cases b with
  | none =>
    simp only [put2, putB, Option.bind_some, hD, upM]
    constructor
    · rintro ⟨h1, h2⟩; exact ⟨fun n k h => (by cases h), h1, h2⟩
    · rintro ⟨_, h1, h2⟩; exact ⟨h1, h2⟩
  | some x =>
    obtain ⟨n, k⟩ := x
    by_cases hs : isWr o.op = true
    · have : putB o s (some (n, k)) = some { s with m := updM s.m n k } := by simp only [putB, hs]
      simp only [put2, this, Option.bind_some, hD, upM]
      constructor
      · rintro ⟨h1, h2⟩; exact ⟨fun _ _ _ => .inl hs, h1, h2⟩
      · rintro ⟨_, h1, h2⟩; exact ⟨h1, h2⟩
    · have ho : isWr o.op = false := by simpa using hs
      rw [put2, putB_new ho]
      cases hm : s.m n with
      | none =>
        cases hn : Nat.ble lentName n with
        | false =>
          have hne : ¬ lentName ≤ n := fun e => by rw [Nat.ble_eq_true_of_le e] at hn; cases hn
          simp only [Option.bind_some, hD, upM]
          constructor
          · rintro ⟨h1, h2⟩; exact ⟨fun _ _ h => (by cases h; exact .inr ⟨hm, hne⟩), h1, h2⟩
          · rintro ⟨_, h1, h2⟩; exact ⟨h1, h2⟩
        | true =>
          constructor
          · intro h; cases h
          · rintro ⟨h1, _⟩
            rcases h1 n k rfl with h | h
            · exact absurd h hs
            · exact absurd (Nat.le_of_ble_eq_true hn) h.2
      | some q =>
        constructor
        · intro h; cases h
        · rintro ⟨h1, _⟩
          rcases h1 n k rfl with h | h
          · exact absurd h hs
          · rw [hm] at h; cases h.1

theorem mem_looks {o : Oper} {t : Nat} (h : Operand.tmp t ∈ o.op.operands) : t ∈ o.looksAt ops := by
  unfold Oper.looksAt
  refine List.mem_append.2 (.inl (List.mem_filterMap.2 ⟨.tmp t, by simpa using h, rfl⟩))

theorem ev_up {o : Oper} {dst : Option Nat} {v : D} {m : Nat → Option Blk} (h : ∀ d, dst = some d → d ∉ o.looksAt ops) {x : Operand} (hx : x ∈ o.op.operands) : ev s x = ev ⟨upT s.t dst v, m⟩ x := by
  cases x with
  | tmp t =>
    cases dst with
    | none => rfl
    | some d =>
      have : t ≠ d := fun e => h d rfl (e ▸ mem_looks hx)
      simp [ev, upT, updT_at, this]
  | const v => rfl
  | func f => rfl
  | global g => rfl

theorem guard_up {o : Oper} {dst : Option Nat} {v : D} {m : Nat → Option Blk} (h : ∀ d, dst = some d → d ∉ o.looksAt ops) : guardOf ops s o = guardOf ops ⟨upT s.t dst v, m⟩ o := by
  unfold guardOf
  cases hg : o.guard with
  | none => rfl
  | some g =>
    obtain ⟨j, want⟩ := g
    cases hd : (ops[j]?).bind (·.dst) with
    | none => simp only [hd]
    | some d' =>
      cases dst with
      | none => rfl
      | some d =>
        have : d' ≠ d := by
          intro e
          refine h d rfl ?_
          unfold Oper.looksAt
          refine List.mem_append.2 (.inr ?_)
          simp only [hg, hd, e, Option.toList_some, List.mem_singleton]
        simp only [hd, upT, updT_at, if_neg this]

theorem del_congr {o : Oper} {i : Nat} (hg : guardOf ops s o = guardOf ops s' o) (he : opEval c z s o = opEval c z s' o) (hd : dieOf c s o = dieOf c s' o) : del c z ops asm dk i o s = del c z ops asm dk i o s' := by
  unfold del; rw [hg, he, hd]

theorem del_blk {o : Oper} {i : Nat} {x : Del} (h : del c z ops asm dk i o s = some x) {n : Nat} {b : Blk} (hb : x.blk = some (n, b)) :
    (opCls c o.op = 3 ∧ s.m n ≠ none) ∨ (opCls c o.op = 2 ∧ o.dst = some n) := by
  unfold del at h
  split at h
  · cases h
  · split at h
    · simp only [Option.some.injEq] at h; subst h; cases hb
    · cases h
  · split at h
    · simp only [Option.bind_eq_some_iff] at h
      obtain ⟨e, h1, h2⟩ := h
      split at h2
      · simp only [Option.map_eq_some_iff] at h2
        obtain ⟨d, _, rfl⟩ := h2
        exact opEval_blk h1 hb
      · cases h2
    · cases h

theorem indep_cls {i j : Nat} (h : indepCls i j = true) : i ≠ 4 ∧ j ≠ 4 ∧ (i = 3 → j ≠ 1 ∧ j ≠ 3) ∧ (j = 3 → i ≠ 1) := by
  simp only [indepCls, Bool.and_eq_true, Bool.not_eq_true'] at h
  obtain ⟨h1, h2, h3, h4⟩ := h
  refine ⟨fun e => ?_, fun e => ?_, fun e => ⟨fun e' => ?_, fun e' => ?_⟩, fun e e' => ?_⟩ <;> simp_all

theorem opCls_lt (op : Op) : opCls c op = 0 ∨ opCls c op = 1 ∨ opCls c op = 2 ∨ opCls c op = 3 ∨ opCls c op = 4 := by
  cases op <;> simp [opCls]
  split
  · split <;> simp
  · simp
  · simp

theorem upT_comm {t : Nat → Option D} {x y : Option Nat} {u v : D} (h : ∀ d, x = some d → y ≠ some d) : upT (upT t x u) y v = upT (upT t y v) x u := by
  cases x with
  | none => rfl
  | some d =>
    cases y with
    | none => rfl
    | some e =>
      have : d ≠ e := fun e' => h d rfl (by rw [e'])
      funext k
      simp only [upT, updT_at]
      by_cases h1 : k = d
      · subst h1; simp [this]
      · simp [h1]

theorem upM_comm {m : Nat → Option Blk} {x y : Option (Nat × Blk)} (h : ∀ n a k b, x = some (n, a) → y = some (k, b) → n ≠ k) : upM (upM m x) y = upM (upM m y) x := by
  cases x with
  | none => rfl
  | some p =>
    cases y with
    | none => rfl
    | some q =>
      have : p.1 ≠ q.1 := h p.1 p.2 q.1 q.2 rfl rfl
      funext k
      simp only [upM, updM_at]
      by_cases h1 : k = p.1
      · subst h1; simp [this]
      · simp [h1]

theorem upM_ne {m : Nat → Option Blk} {b : Option (Nat × Blk)} {n : Nat} (h : ∀ k x, b = some (k, x) → k ≠ n) : upM m b n = m n := by
  cases b with
  | none => rfl
  | some p => simp only [upM, updM_at]; rw [if_neg (fun e => h p.1 p.2 rfl e.symm)]

theorem step_comm (hw : WF s) {oi oj : Oper} {i j : Nat} (hin : indep c ops oi oj = true) {si sij : St} (h1 : stepD c z ops asm dk i oi s = some si) (h2 : stepD c z ops asm dk j oj si = some sij) :
    ∃ sj, stepD c z ops asm dk j oj s = some sj ∧ stepD c z ops asm dk i oi sj = some sij := by
  simp only [indep, Bool.and_eq_true] at hin
  obtain ⟨hap, hcl⟩ := hin
  obtain ⟨a1, a2, a3⟩ := Oper.apart_spec hap
  obtain ⟨ci, cj, c3, c4⟩ := indep_cls hcl
  simp only [stepD, Option.bind_eq_some_iff] at h1 h2 ⊢
  obtain ⟨x, hx, px⟩ := h1
  obtain ⟨y, hy, py⟩ := h2
  obtain ⟨fx, dx, rfl⟩ := put2_iff.1 px
  obtain ⟨fy, dy, rfl⟩ := put2_iff.1 py
  -- the block of i, told in s
  have bx : ∀ n b, x.blk = some (n, b) → (opCls c oi.op = 3 ∧ s.m n ≠ none) ∨ (opCls c oi.op = 2 ∧ oi.dst = some n ∧ s.m n = none ∧ ¬ lentName ≤ n) := by
    intro n b hb
    rcases del_blk hx hb with h | ⟨h, h'⟩
    · exact .inl h
    · refine .inr ⟨h, h', ?_⟩
      rcases fx n b hb with h'' | h''
      · exact absurd h (wr_cls h'')
      · exact h''
  have memj : opCls c oj.op = 0 ∨ opCls c oj.op = 2 ∨ ∀ u ∈ oj.op.operands, ∀ d, ev s u = some d → ∀ n ∈ d.nm, s.m n = upM s.m x.blk n := by
    by_cases h3 : opCls c oi.op = 3
    · have := c3 h3
      rcases opCls_lt (c := c) oj.op with h | h | h | h | h <;> first | exact .inl h | exact .inr (.inl h) | (exfalso; omega)
    · refine .inr (.inr fun u _ d hd n hn => (upM_ne fun k b hb e => ?_).symm)
      subst e
      rcases bx k b hb with h | h
      · exact h3 h.1
      · exact ev_nm hw hd k hn h.2.2.1
  have ej : del c z ops asm dk j oj s = del c z ops asm dk j oj ⟨upT s.t oi.dst x.val, upM s.m x.blk⟩ :=
    del_congr (guard_up a1) (opEval_congr cj (fun u hu => ev_up a1 hu) memj) (dieOf_congr (fun u hu => ev_up a1 hu) memj)
  have by' : ∀ n b, y.blk = some (n, b) → (opCls c oj.op = 3 ∧ s.m n ≠ none) ∨ (opCls c oj.op = 2 ∧ oj.dst = some n ∧ s.m n = none ∧ ¬ lentName ≤ n) := by
    intro n b hb
    rcases del_blk (ej.trans hy) hb with h | ⟨h, h'⟩
    · exact .inl h
    · refine .inr ⟨h, h', ?_⟩
      rcases fy n b hb with h'' | h''
      · exact absurd h (wr_cls h'')
      · have h3 : upM s.m x.blk n = none := h''.1
        refine ⟨?_, h''.2⟩
        cases hxb : x.blk with
        | none => rw [hxb] at h3; exact h3
        | some p =>
          rw [hxb] at h3
          simp only [upM, updM_at] at h3
          split at h3
          · cases h3
          · exact h3
  have hne : ∀ n a k b, x.blk = some (n, a) → y.blk = some (k, b) → n ≠ k := by
    intro n a k b hn hk e
    subst e
    rcases bx n a hn with h | h <;> rcases by' n b hk with h' | h'
    · have := c3 h.1; omega
    · exact h.2 h'.2.2.1
    · exact h'.2 h.2.2.1
    · exact a2 n h.2.1 h'.2.1
  have memi : opCls c oi.op = 0 ∨ opCls c oi.op = 2 ∨ ∀ u ∈ oi.op.operands, ∀ d, ev s u = some d → ∀ n ∈ d.nm, s.m n = upM s.m y.blk n := by
    by_cases h3 : opCls c oj.op = 3
    · have h5 := c4 h3
      rcases opCls_lt (c := c) oi.op with h | h | h | h | h <;> first | exact .inl h | exact .inr (.inl h) | (exfalso; have := c3 h; omega) | (exfalso; omega)
    · refine .inr (.inr fun u _ d hd n hn => (upM_ne fun k b hb e => ?_).symm)
      subst e
      rcases by' k b hb with h | h
      · exact h3 h.1
      · exact ev_nm hw hd k hn h.2.2.1
  have ei : del c z ops asm dk i oi s = del c z ops asm dk i oi ⟨upT s.t oj.dst y.val, upM s.m y.blk⟩ :=
    del_congr (guard_up a3) (opEval_congr ci (fun u hu => ev_up a3 hu) memi) (dieOf_congr (fun u hu => ev_up a3 hu) memi)
  refine ⟨⟨upT s.t oj.dst y.val, upM s.m y.blk⟩, ⟨y, ej.trans hy, put2_iff.2 ⟨fun n b hb => ?_, dy, rfl⟩⟩, x, ei.symm.trans hx, put2_iff.2 ⟨fun n b hb => ?_, dx, ?_⟩⟩
  · rcases by' n b hb with h | h
    · exact .inl (cls_wr h.1)
    · exact .inr h.2.2
  · rcases bx n b hb with h | h
    · exact .inl (cls_wr h.1)
    · right
      refine ⟨?_, h.2.2.2⟩
      show upM s.m y.blk n = none
      rw [upM_ne fun k q hq => (hne n b k q hb hq).symm]
      exact h.2.2.1
  · rw [upT_comm a2, upM_comm hne]

theorem step_wf (hz : ZeroFlat c z) (hw : WF s) {o : Oper} {i : Nat} (h : stepD c z ops asm dk i o s = some s') : WF s' := by
  simp only [stepD, Option.bind_eq_some_iff] at h
  obtain ⟨x, hx, px⟩ := h
  obtain ⟨fx, dx, rfl⟩ := put2_iff.1 px
  have hok : (∀ n ∈ x.val.nm, s.m n ≠ none ∨ ∃ b, x.blk = some (n, b)) ∧ (∀ n b, x.blk = some (n, b) → flats b.cells = true) := by
    unfold del at hx
    split at hx
    · cases hx
    · split at hx
      · simp only [Option.some.injEq] at hx; subst hx; exact ⟨fun n hn => (by cases hn), fun _ _ hb => (by cases hb)⟩
      · cases hx
    · split at hx
      · simp only [Option.bind_eq_some_iff] at hx
        obtain ⟨e, h1, h2⟩ := hx
        have he := opEval_eff hz hw h1
        split at h2
        · simp only [Option.map_eq_some_iff] at h2
          obtain ⟨d, h3, rfl⟩ := h2
          refine ⟨fun n hn => ?_, he.2⟩
          split at h3
          · unfold valD at h3
            split at h3
            · simp only [Option.some.injEq] at h3; subst h3; exact he.1 n hn
            · split at h3
              · split at h3
                · simp only [Option.some.injEq] at h3; subst h3; cases hn
                · cases h3
              · cases h3
          · simp only [Option.some.injEq] at h3; subst h3; exact he.1 n hn
        · cases h2
      · cases hx
  have keep : ∀ n, s.m n ≠ none → upM s.m x.blk n ≠ none := by
    intro n hn
    cases hb : x.blk with
    | none => exact hn
    | some p =>
      simp only [upM, updM_at]
      split
      · simp
      · exact hn
  refine ⟨fun t d hd n hn => ?_, fun n b hb => ?_⟩
  · have key : ∀ d', s.t t = some d' → d' = d → upM s.m x.blk n ≠ none := fun d' h1 h2 => keep n (hw.t t d' h1 n (h2 ▸ hn))
    cases hdst : o.dst with
    | none => simp only [hdst, upT] at hd; exact key d hd rfl
    | some q =>
      simp only [hdst, upT, updT_at] at hd
      split at hd
      · simp only [Option.some.injEq] at hd
        subst hd
        rcases hok.1 n hn with h | ⟨b, h⟩
        · exact keep n h
        · simp [upM, h, updM_at]
      · exact key d hd rfl
  · cases hbl : x.blk with
    | none => simp only [hbl, upM] at hb; exact hw.m n b hb
    | some p =>
      simp only [hbl, upM, updM_at] at hb
      split at hb
      · simp only [Option.some.injEq] at hb; subst hb; exact hok.2 p.1 p.2 hbl
      · exact hw.m n b hb
end
end Go.Adit

namespace Go.Adit
open Go.RowKit

/-- the orders that a region may be carried out in: what is not bound to come behind is independent -/
def freeI (c : Cfg) (ops : Array Oper) (listed : Array Bool) (i : Nat) : Bool :=
  match ops[i]? with
  | none => false
  | some oi => (List.range ops.size).all fun j => Nat.beq j i || listed.getD j true || match ops[j]? with
      | some oj => oj.after.any (fun e => Region.binds .any e && Nat.beq e.on i) || indep c ops oi oj
      | none => true

def lexI (c : Cfg) (ops : Array Oper) : Nat → Nat → Array Bool → Bool
  | 0, _, listed => (Region.ready .any ops listed).isEmpty
  | n + 1, k, listed => (Region.ready .any ops listed).contains k && (freeI c ops listed k && lexI c ops n (k + 1) (listed.setIfInBounds k true))

def drawOk (c : Cfg) (ops : Array Oper) : Bool := lexI c ops ops.size 0 (Array.replicate ops.size false)

section
variable {P : Program} {w0 : Base} {N : Nat} {s s' : St} {β : Nat → Option Nat} {a : Act} {w : World} {c : Cfg} {z : Zs} {ops : Array Oper} {asm : List (Nat × Bool)} {dk : Option (Nat × Int)}

theorem Rel.wf (h : Rel w0 N s β a w) : WF s := by
  have nm : ∀ {x : SC} {v : Value}, RepS β (fun b => w0.heap.size ≤ b) w x v → ∀ n ∈ x.names, s.m n ≠ none := by
    intro x v hr n hn
    cases x <;> simp only [SC.names, List.mem_singleton, List.not_mem_nil] at hn
    case ptr => subst hn; obtain ⟨b, hb, _⟩ := hr; intro e; rw [h.dom _ e] at hb; cases hb
    case lsl => subst hn; obtain ⟨b, hb, _⟩ := hr; intro e; rw [h.dom _ e] at hb; cases hb
  have nml : ∀ {l : List SC} {vs : List Value}, RepL β (fun b => w0.heap.size ≤ b) w l vs → ∀ n ∈ l.flatMap SC.names, s.m n ≠ none := by
    intro l
    induction l with
    | nil => intro vs _ n hn; cases hn
    | cons x l ih =>
      intro vs hr n hn
      cases vs with
      | nil => exact hr.elim
      | cons v vs =>
        simp only [List.flatMap_cons, List.mem_append] at hn
        rcases hn with hn | hn
        · exact nm hr.1 n hn
        · exact ih hr.2 n hn
  refine ⟨fun t d hd n hn => ?_, fun n b hb => ?_⟩
  · obtain ⟨v, _, hr⟩ := h.tm t d hd
    cases d with
    | s x => exact nm hr n hn
    | agg l => obtain ⟨cs, _, hr⟩ := hr; exact nml hr n hn
    | tup l => cases hn
  · obtain ⟨_, _, _, _, _, _, h4⟩ := h.mem n b hb; exact h4

theorem guard_run (hR : Rel w0 N s β a w) {o : Oper} (h : guardOf ops s o = .run) : Region.wanted o (yielded ops a.tmps) = true := by
  unfold guardOf at h
  unfold Region.wanted
  cases hg : o.guard with
  | none => rfl
  | some g =>
    obtain ⟨j, want⟩ := g
    simp only [hg] at h ⊢
    cases hd : (ops[j]?).bind (·.dst) with
    | none => simp [hd] at h
    | some d =>
      simp only [hd] at h
      split at h
      · rename_i b hb
        obtain ⟨v, h1, h2⟩ := hR.tm d _ hb
        have h3 : v = .bool b := h2
        split at h
        · rename_i hw
          simp only [yielded, hd, Option.bind_some, h1, h3]
          simpa using hw
        · cases h
      · cases h
      · cases h

theorem guard_skip (hR : Rel w0 N s β a w) {o : Oper} (h : guardOf ops s o = .skip) : Region.wanted o (yielded ops a.tmps) = false := by
  unfold guardOf at h
  unfold Region.wanted
  cases hg : o.guard with
  | none => simp [hg] at h
  | some g =>
    obtain ⟨j, want⟩ := g
    simp only [hg] at h ⊢
    cases hd : (ops[j]?).bind (·.dst) with
    | none => simp [hd] at h
    | some d =>
      simp only [hd] at h
      split at h
      · rename_i b hb
        obtain ⟨v, h1, h2⟩ := hR.tm d _ hb
        have h3 : v = .bool b := h2
        split at h
        · cases h
        · rename_i hw
          simp only [yielded, hd, Option.bind_some, h1, h3]
          simpa using hw
      · rename_i hb
        obtain ⟨v, h1, h2⟩ := hR.tm d _ hb
        obtain ⟨vs, h3, h4⟩ := h2
        simp only [yielded, hd, Option.bind_some, h1, h3]
        rfl
      · cases h

theorem step_sound (E : Env P c z) (hN : c.n = N) (hR : Rel w0 N s β a w) {i : Nat} {o : Oper} (ho : ops[i]? = some o) (hdk : dkAt dk i = none) (h : stepD c z ops asm dk i o s = some s') {K : Act → World → Prop} {Q : Exit → Act → World → Prop}
    (hK : ∀ β' a' w', Rel w0 N s' β' a' w' → K a' w') : wpOp P ops Q i K a w := by
  unfold wpOp
  simp only [ho]
  simp only [stepD, Option.bind_eq_some_iff] at h
  obtain ⟨x, hx, px⟩ := h
  unfold del at hx
  rw [hdk] at hx
  split at hx
  · cases hx
  · rename_i hg
    simp only [if_true, Option.some.injEq] at hx
    subst hx
    rw [if_neg (by rw [guard_skip hR hg]; simp)]
    simp only [put2, putB, Option.bind_some] at px
    exact hK β _ w (hR.put hN px ⟨[], rfl, trivial⟩)
  · rename_i hg
    rw [if_pos (guard_run hR hg)]
    split at hx
    · rename_i hdd
      simp only [Option.bind_eq_some_iff] at hx
      obtain ⟨e, h1, h2⟩ := hx
      split at h2
      · rename_i hq
        simp only [Option.map_eq_some_iff] at h2
        obtain ⟨d, h3, rfl⟩ := h2
        simp only [put2, Option.bind_eq_some_iff] at px
        obtain ⟨s1, p1, p2⟩ := px
        have hq' : ∀ b ∈ e.req, b = true := by simpa using hq
        refine .inl (op_sound E hR h1 (fun b n hbn => ?_) hq' s1 p1 K Q ?_)
        · rw [hbn] at hdd
          simp only [deadNow] at hdd
          cases hb : b.lb with
          | false => rfl
          | true => rw [hb] at hdd; cases hdd
        rintro v w' ⟨β', r1, r2⟩
        refine hK β' _ w' (r1.put hN p2 ?_)
        split at h3
        · unfold valD at h3
          split at h3
          · simp only [Option.some.injEq] at h3; subst h3; exact r2
          · rename_i vv _
            split at h3
            · rename_i b hb
              split at h3
              · rename_i hv
                simp only [Option.some.injEq] at h3
                subst h3
                subst hv
                rw [hb] at r2
                exact r2
              · cases h3
            · cases h3
        · simp only [Option.some.injEq] at h3; subst h3; exact r2
      · cases h2
    · cases hx

/-- blocks stay, and keep their sizes -/
def Grow (c : Cfg) (s s' : St) : Prop := (∀ k blk, s.m k = some blk → ∃ blk', s'.m k = some blk' ∧ blk'.cells.length = blk.cells.length) ∧ ∀ t, c.pin t = true → s'.t t = s.t t

theorem Grow.refl (s : St) : Grow c s s := ⟨fun _ blk h => ⟨blk, h, rfl⟩, fun _ _ => rfl⟩
theorem Grow.trans {s s' s'' : St} (h : Grow c s s') (h' : Grow c s' s'') : Grow c s s'' := ⟨fun k blk hk =>
  let ⟨b1, e1, e2⟩ := h.1 k blk hk
  let ⟨b2, e3, e4⟩ := h'.1 k b1 e1
  ⟨b2, e3, e4.trans e2⟩, fun t ht => (h'.2 t ht).trans (h.2 t ht)⟩

theorem setAt_length : ∀ {l r l' : List SC} (n : Nat), setAt l n r = some l' → l'.length = l.length
  | l, [], l', 0, h => by simp [setAt] at h; rw [h]
  | y :: l, u :: r, l', 0, h => by
    simp only [setAt, Option.map_eq_some_iff] at h
    obtain ⟨l1, h1, rfl⟩ := h
    simp [setAt_length 0 h1]
  | y :: l, r, l', n + 1, h => by
    have h' : (setAt l n r).map (y :: ·) = some l' := by cases r <;> simpa [setAt] using h
    simp only [Option.map_eq_some_iff] at h'
    obtain ⟨l1, h1, rfl⟩ := h'
    simp [setAt_length n h1]
  | [], _ :: _, _, 0, h => by simp [setAt] at h
  | [], r, _, n + 1, h => by cases r <;> simp [setAt] at h

theorem opEval_len {o : Oper} {e : Eff} (he : opEval c z s o = some e) (hw : isWr o.op = true) : ∀ n b, e.blk = some (n, b) → ∃ b0, s.m n = some b0 ∧ b.cells.length = b0.cells.length := by
  intro n b hb
  unfold opEval at he
  cases ho : o.op <;> rw [ho] at hw he <;> simp [isWr] at hw <;> simp only at he
  case store t x y =>
    split at he
    · rename_i nn off cs hx hy
      split at he
      · rename_i blk hm
        split at he
        · simp only [Option.map_eq_some_iff] at he
          obtain ⟨l', h2, rfl⟩ := he
          cases hb
          exact ⟨blk, hm, setAt_length _ h2⟩
        · cases he
      · cases he
    · cases he
  case call k =>
    have pS : ∀ {x : SC}, pureS x = some e → False := fun h => by simp only [pureS, Option.some.injEq] at h; subst h; cases hb
    split at he
    · rename_i f hf
      unfold callE at he
      split at he
      · simp only [Option.bind_eq_some_iff] at he
        obtain ⟨q, hq, l, _, r, _, he⟩ := he
        split at he
        · rename_i h4
          simp only [Bool.and_eq_true] at h4
          simp only [Option.some.injEq] at he; subst he
          simp only [Option.some.injEq, Prod.mk.injEq] at hb
          obtain ⟨rfl, rfl⟩ := hb
          refine ⟨q.2.1, ?_, Nat.eq_of_beq_eq_true h4.2.2⟩
          generalize k.args.toList = al at hq
          cases al with
          | nil => simp [lentOf] at hq
          | cons x r =>
            simp only [lentOf] at hq
            split at hq
            · split at hq
              · rename_i hmm _
                split at hq
                · simp only [Option.some.injEq] at hq; subst hq; exact hmm
                · cases hq
              · cases hq
            · cases hq
        · cases he
      · simp only [Option.bind_eq_some_iff] at he
        obtain ⟨l, _, r, _, he⟩ := he
        split at he
        · simp only [Option.some.injEq] at he; subst he; cases hb
        · cases he
    · split at he
      · split at he <;> first
          | exact (pS he).elim
          | cases he
      · cases he
    all_goals first
      | cases he
      | (unfold copyE at he
         split at he
         · split at he
           · split at he
             · rename_i hm
               simp only [Option.bind_eq_some_iff, Option.map_eq_some_iff] at he
               obtain ⟨new, _, l', h9, rfl⟩ := he
               simp only [Option.some.injEq, Prod.mk.injEq] at hb
               obtain ⟨rfl, rfl⟩ := hb
               exact ⟨_, hm, setAt_length _ h9⟩
             · cases he
           · cases he
         · cases he)
      | (unfold minmax at he
         split at he
         · split at he
           · split at he
             · split at he
               · exact (pS he).elim
               · cases he
             · cases he
           · cases he
         · cases he)

theorem step_grow {i : Nat} {o : Oper} (h : stepD c z ops asm dk i o s = some s') : Grow c s s' := by
  simp only [stepD, Option.bind_eq_some_iff] at h
  obtain ⟨x, hx, px⟩ := h
  obtain ⟨fx, dx, rfl⟩ := put2_iff.1 px
  refine ⟨fun k blk hk => ?_, fun t ht => ?_⟩
  case refine_2 =>
    cases hd : o.dst with
    | none => rfl
    | some d =>
      have h1 := dx d hd
      simp only [Cfg.okDst, Bool.and_eq_true, Bool.not_eq_true'] at h1
      simp only [upT, updT_at]
      rw [if_neg (fun e => by rw [e, h1.2] at ht; cases ht)]
  cases hb : x.blk with
  | none => exact ⟨blk, hk, rfl⟩
  | some p =>
    obtain ⟨n, b⟩ := p
    simp only [upM, updM_at]
    by_cases hkn : k = n
    · subst hkn
      rw [if_pos rfl]
      refine ⟨b, rfl, ?_⟩
      rcases fx k b hb with hw | hf
      · unfold del at hx
        split at hx
        · cases hx
        · split at hx
          · simp only [Option.some.injEq] at hx; subst hx; cases hb
          · cases hx
        · split at hx
          · simp only [Option.bind_eq_some_iff] at hx
            obtain ⟨e, h1, h2⟩ := hx
            split at h2
            · simp only [Option.map_eq_some_iff] at h2
              obtain ⟨d, _, rfl⟩ := h2
              obtain ⟨b0, g1, g2⟩ := opEval_len h1 hw k b hb
              rw [hk] at g1
              simp only [Option.some.injEq] at g1
              rw [g2, g1]
            · cases h2
          · cases hx
      · rw [hf.1] at hk; cases hk
    · rw [if_neg hkn]; exact ⟨blk, hk, rfl⟩

/-- an operation that panics -/
theorem step_dead (E : Env P c z) (hR : Rel w0 N s β a w) {i : Nat} {n : Int} {o : Oper} (ho : ops[i]? = some o) (hdk : dkAt dk i = some n) (h : stepD c z ops asm dk i o s = some s') {K : Act → World → Prop} {Q : Exit → Act → World → Prop}
    (hQ : ∀ w', Left w0 N c s β a w' → Q (.panic (errChain n)) a w') : wpOp P ops Q i K a w := by
  unfold wpOp
  simp only [ho]
  simp only [stepD, Option.bind_eq_some_iff] at h
  obtain ⟨x, hx, px⟩ := h
  unfold del at hx
  rw [hdk] at hx
  split at hx
  · cases hx
  · simp at hx
  · rename_i hg
    rw [if_pos (guard_run hR hg)]
    split at hx
    · rename_i hdd
      cases hdo : dieOf c s o with
      | none => rw [hdo] at hdd; cases hdd
      | some p =>
        obtain ⟨b, n'⟩ := p
        rw [hdo] at hdd
        simp only [deadNow] at hdd
        split at hdd
        · rename_i hb
          simp only [Option.some.injEq] at hdd
          subst hdd
          unfold dieOf at hdo
          split at hdo
          · rename_i k hk
            split at hdo
            · rename_i f hf
              exact .inl (die_call E hR hk hf hdo hb hQ)
            · cases hdo
          · cases hdo
        · cases hdd
    · cases hx

def stepAt (c : Cfg) (z : Zs) (ops : Array Oper) (asm : List (Nat × Bool)) (dk : Option (Nat × Int)) (i : Nat) (s : St) : Option St :=
  match ops[i]? with
  | none => some s
  | some o => stepD c z ops asm dk i o s

/-- whatever order is picked, the run goes through and comes to a state of this kind -/
def anyS (c : Cfg) (z : Zs) (ops : Array Oper) (asm : List (Nat × Bool)) (dk : Option (Nat × Int)) (Post : St → Prop) : Nat → Array Bool → St → Prop
  | 0, listed, s => Region.ready .any ops listed = [] ∧ Post s
  | n + 1, listed, s => Region.ready .any ops listed ≠ [] ∧
      ∀ i ∈ Region.ready .any ops listed, ∃ s', stepAt c z ops asm dk i s = some s' ∧ anyS c z ops asm dk Post n (listed.setIfInBounds i true) s'

theorem anyS_sound (E : Env P c z) (hN : c.n = N) {Post : St → Prop} {Q : Exit → Act → World → Prop} (hQ : ∀ s β a w, Post s → Rel w0 N s β a w → Q .normal a w) :
    ∀ (n : Nat) (listed : Array Bool) (s : St) (β : Nat → Option Nat) (a : Act) (w : World), anyS c z ops asm none Post n listed s → Rel w0 N s β a w → wpAny P .any ops Q n listed a w
  | 0, _, _, _, _, _, h, hR => ⟨h.1, hQ _ _ _ _ h.2 hR⟩
  | n + 1, listed, s, β, a, w, h, hR => ⟨fun h0 => absurd h0 h.1, fun i hi => by
      obtain ⟨s', h1, h2⟩ := h.2 i hi
      obtain ⟨_, o, ho, _⟩ := mem_ready.1 hi
      simp only [stepAt, ho] at h1
      exact step_sound E hN hR ho rfl h1 fun β' a' w' hR' => anyS_sound E hN hQ n _ s' β' a' w' h2 hR'⟩

theorem count_set {l : List Bool} {i : Nat} (h : l.getD i true = false) : (l.set i true).count false + 1 = l.count false := by
  induction l generalizing i with
  | nil => simp at h
  | cons x l ih =>
    cases i with
    | zero => simp at h; subst h; simp
    | succ i =>
      simp at h
      have := ih (i := i) (by simpa using h)
      simp only [List.set_cons_succ, List.count_cons]
      omega

/-- one operation panics, in whatever order -/
theorem anyS_dead (E : Env P c z) (hN : c.n = N) {k : Nat} {e : Int} {Post : St → Prop} {Q : Exit → Act → World → Prop} {s0 : St} (hQ : ∀ s β a w w', Grow c s0 s → Rel w0 N s β a w → Left w0 N c s β a w' → Q (.panic (errChain e)) a w') :
    ∀ (n : Nat) (listed : Array Bool) (s : St) (β : Nat → Option Nat) (a : Act) (w : World), listed.toList.count false = n → listed.getD k true = false → Grow c s0 s →
      anyS c z ops asm (some (k, e)) Post n listed s → Rel w0 N s β a w → wpAny P .any ops Q n listed a w
  | 0, listed, s, β, a, w, hc, hk, hg, h, hR => by
    exfalso
    have : false ∈ listed.toList := by
      rw [Array.getD_eq_getD_getElem?] at hk
      cases e : listed[k]? with
      | none => rw [e] at hk; simp at hk
      | some b =>
        rw [e] at hk
        simp at hk
        subst hk
        exact Array.mem_toList_iff.2 (Array.mem_of_getElem? e)
    have := List.count_pos_iff.2 this
    omega
  | n + 1, listed, s, β, a, w, hc, hk, hg, h, hR => ⟨fun h0 => absurd h0 h.1, fun i hi => by
      obtain ⟨s', h1, h2⟩ := h.2 i hi
      obtain ⟨hun, o, ho, _⟩ := mem_ready.1 hi
      simp only [stepAt, ho] at h1
      by_cases hik : i = k
      · subst hik
        exact step_dead E hR ho (n := e) (by simp [dkAt]) h1 fun w' hl => hQ s β a w w' hg hR hl
      · refine step_sound E hN hR ho (by simp [dkAt, hik]) h1 fun β' a' w' hR' => anyS_dead E hN hQ n _ s' β' a' w' ?_ ?_ (hg.trans (step_grow h1)) h2 hR'
        · have := count_set (l := listed.toList) (i := i) (by simpa [Array.getD_eq_getD_getElem?] using hun)
          simp only [Array.toList_setIfInBounds]
          omega
        · rw [getD_set_ne true hik]; exact hk⟩

theorem free_spec {i : Nat} {oi : Oper} {listed : Array Bool} (hi : ops[i]? = some oi) (h : freeI c ops listed i = true) (j : Nat) (oj : Oper)
    (hj : ops[j]? = some oj) (hne : j ≠ i) (hun : listed.getD j true = false) (hno : ∀ e ∈ oj.after, Region.binds .any e = true → e.on ≠ i) : indep c ops oi oj = true := by
  simp only [freeI, hi, List.all_eq_true, List.mem_range] at h
  have h1 := h j (Array.getElem?_eq_some_iff.1 hj).1
  have h2 : Nat.beq j i = false := beq_false hne
  simp only [hj, h2, hun, Bool.false_or, Bool.or_eq_true] at h1
  rcases h1 with h1 | h1
  · obtain ⟨e, he, hb⟩ := Array.any_eq_true'.1 h1
    simp only [Bool.and_eq_true] at hb
    exact absurd (beq_of hb.2) (hno e he hb.1)
  · exact h1

theorem anyS_first (hz : ZeroFlat c z) {Post : St → Prop} {i : Nat} {oi : Oper} (hi : ops[i]? = some oi) :
    ∀ (n : Nat) (listed : Array Bool) (s si : St), WF s →
      (∀ j oj, ops[j]? = some oj → j ≠ i → listed.getD j true = false → (∀ e ∈ oj.after, Region.binds .any e = true → e.on ≠ i) → indep c ops oi oj = true) →
      i ∈ Region.ready .any ops listed → stepD c z ops asm dk i oi s = some si → anyS c z ops asm dk Post n (listed.setIfInBounds i true) si → anyS c z ops asm dk Post (n + 1) listed s := by
  intro n
  induction n with
  | zero =>
    intro listed s si _ _ hr hs H
    refine ⟨fun h => (by rw [h] at hr; cases hr), fun j hj => ?_⟩
    by_cases hji : j = i
    · subst hji; exact ⟨si, by simp only [stepAt, hi]; exact hs, H⟩
    · have := ready_mono hj hji
      rw [H.1] at this
      cases this
  | succ n ih =>
    intro listed s si hw hfree hr hs H
    refine ⟨fun h => (by rw [h] at hr; cases hr), fun j hj => ?_⟩
    by_cases hji : j = i
    · subst hji; exact ⟨si, by simp only [stepAt, hi]; exact hs, H⟩
    · obtain ⟨sij, h1, h2⟩ := H.2 j (ready_mono hj hji)
      obtain ⟨hjun, oj, hoj, hall⟩ := mem_ready.1 hj
      have hnot : ∀ e ∈ oj.after, Region.binds .any e = true → e.on ≠ i := fun e he hb heq => by
        have h1 := hall e he hb
        have h0 := (mem_ready.1 hr).1
        rw [heq] at h1
        rcases Nat.lt_or_ge i listed.size with h' | h'
        · simp [h'] at h0 h1; rw [h0] at h1; cases h1
        · simp [Array.getElem?_eq_none h'] at h1
      simp only [stepAt, hoj] at h1
      obtain ⟨sj, k1, k2⟩ := step_comm hw (hfree j oj hoj hji hjun hnot) hs h1
      refine ⟨sj, by simp only [stepAt, hoj]; exact k1, ?_⟩
      have hfree' : ∀ k ok, ops[k]? = some ok → k ≠ i → (listed.setIfInBounds j true).getD k true = false →
          (∀ e ∈ ok.after, Region.binds .any e = true → e.on ≠ i) → indep c ops oi ok = true := fun k ok hk hki hun hno => by
        refine hfree k ok hk hki ?_ hno
        by_cases hjk : j = k
        · subst hjk; exact hjun
        · rw [getD_set_ne true hjk] at hun; exact hun
      refine ih (listed.setIfInBounds j true) sj sij (step_wf hz hw k1) hfree' (ready_mono hr (Ne.symm hji)) k2 ?_
      rw [Array.setIfInBounds_comm _ _ hji]
      exact h2

/-- the run in the order of the text -/
def runD (c : Cfg) (z : Zs) (ops : Array Oper) (asm : List (Nat × Bool)) (dk : Option (Nat × Int)) : List Oper → Nat → St → Option St
  | [], _, s => some s
  | o :: l, i, s => (stepD c z ops asm dk i o s).bind fun s' => runD c z ops asm dk l (i + 1) s'

theorem anyS_lex (hz : ZeroFlat c z) {Post : St → Prop} : ∀ (l : List Oper) (k : Nat) (listed : Array Bool) (s s' : St), WF s → (∀ j, l[j]? = ops[k + j]?) → lexI c ops l.length k listed = true →
    runD c z ops asm dk l k s = some s' → Post s' → anyS c z ops asm dk Post l.length listed s
  | [], _, _, s, s', _, _, hB, hr, hp => by
    simp only [runD, Option.some.injEq] at hr
    subst hr
    exact ⟨by simpa [lexI] using hB, hp⟩
  | o :: l, k, listed, s, s', hw, hl, hB, hr, hp => by
    have h0 : ops[k]? = some o := by simpa using (hl 0).symm
    simp only [List.length_cons, lexI, Bool.and_eq_true] at hB
    obtain ⟨hrd, hf, hB'⟩ := hB
    simp only [runD, Option.bind_eq_some_iff] at hr
    obtain ⟨s1, h1, h2⟩ := hr
    exact anyS_first hz h0 l.length listed s s1 hw (free_spec h0 hf) (by simpa using hrd) h1
      (anyS_lex hz l (k + 1) _ s1 s' (step_wf hz hw h1) (fun j => by have := hl (j + 1); simpa [Nat.add_assoc, Nat.add_comm 1 j] using this) hB' h2 hp)

theorem region_text (E : Env P c z) (hN : c.n = N) {Q : Exit → Act → World → Prop} : ∀ (l : List Oper) (k : Nat) (s s' : St) (β : Nat → Option Nat) (a : Act) (w : World), (∀ j, l[j]? = ops[k + j]?) →
    runD c z ops asm none l k s = some s' → Rel w0 N s β a w → (∀ β' a' w', Rel w0 N s' β' a' w' → Q .normal a' w') → wpOps P ops Q (List.range' k l.length) a w
  | [], _, s, s', β, a, w, _, hr, hR, hQ => by
    simp only [runD, Option.some.injEq] at hr
    subst hr
    exact hQ β a w hR
  | o :: l, k, s, s', β, a, w, hl, hr, hR, hQ => by
    have h0 : ops[k]? = some o := by simpa using (hl 0).symm
    simp only [runD, Option.bind_eq_some_iff] at hr
    obtain ⟨s1, h1, h2⟩ := hr
    simp only [List.length_cons, List.range'_succ, wpOps_cons]
    exact step_sound E hN hR h0 rfl h1 fun β' a' w' hR' =>
      region_text E hN l (k + 1) s1 s' β' a' w' (fun j => by have := hl (j + 1); simpa [Nat.add_assoc, Nat.add_comm 1 j] using this) h2 hR' hQ

theorem text_dead (E : Env P c z) (hN : c.n = N) {kk : Nat} {e : Int} {Q : Exit → Act → World → Prop} {s0 : St} (hQ : ∀ s β a w w', Grow c s0 s → Rel w0 N s β a w → Left w0 N c s β a w' → Q (.panic (errChain e)) a w') :
    ∀ (l : List Oper) (k : Nat) (s s' : St) (β : Nat → Option Nat) (a : Act) (w : World), (∀ j, l[j]? = ops[k + j]?) → k ≤ kk → kk < k + l.length → Grow c s0 s →
    runD c z ops asm (some (kk, e)) l k s = some s' → Rel w0 N s β a w → wpOps P ops Q (List.range' k l.length) a w
  | [], k, s, s', β, a, w, _, h1, h2, _, _, _ => by simp at h2; omega
  | o :: l, k, s, s', β, a, w, hl, hk1, hk2, hg, hr, hR => by
    have h0 : ops[k]? = some o := by simpa using (hl 0).symm
    simp only [runD, Option.bind_eq_some_iff] at hr
    obtain ⟨s1, h1, h2⟩ := hr
    simp only [List.length_cons, List.range'_succ, wpOps_cons]
    by_cases hik : k = kk
    · subst hik
      exact step_dead E hR h0 (n := e) (by simp [dkAt]) h1 fun w' hl => hQ s β a w w' hg hR hl
    · exact step_sound E hN hR h0 (by simp [dkAt, hik]) h1 fun β' a' w' hR' =>
        text_dead E hN hQ l (k + 1) s1 s' β' a' w' (fun j => by have := hl (j + 1); simpa [Nat.add_assoc, Nat.add_comm 1 j] using this) (by omega) (by simp at hk2; omega) (hg.trans (step_grow h1)) h2 hR'

theorem Rel.drew (h : Rel w0 N s β a w) : Rel w0 N s β a { w with drawn := w.drawn + 1 } :=
  h.below ⟨rfl, rfl, rfl, Nat.le_refl _, fun _ _ => rfl⟩

theorem region_sound (E : Env P c z) (hz : ZeroFlat c z) (hN : c.n = N) {Q : Exit → Act → World → Prop} {id : Nat} {draw : Bool} (hd : draw = true → drawOk c ops = true) (hr : runD c z ops asm none ops.toList 0 s = some s')
    (hR : Rel w0 N s β a w) (hQ : ∀ β' a' w', Rel w0 N s' β' a' w' → Q .normal a' w') : (Code.region id ops draw).wp P Q a w := by
  cases draw with
  | false =>
    refine wp_region ?_
    rw [List.range_eq_range', ← Array.length_toList]
    exact region_text E hN ops.toList 0 s s' β a w (by simp) hr hR hQ
  | true =>
    refine wp_region_any E.mixed (anyS_sound (asm := asm) E hN (Post := fun x => x = s') (fun x β a w e hR => by subst e; exact hQ β a w hR) _ _ s β a _ ?_ hR.drew)
    have := anyS_lex (dk := none) (Post := fun x => x = s') hz ops.toList 0 (Array.replicate ops.size false) s s' hR.wf (by simp) (by simpa [drawOk] using hd rfl) hr rfl
    simpa using this

theorem region_dead (E : Env P c z) (hz : ZeroFlat c z) (hN : c.n = N) {Q : Exit → Act → World → Prop} {id : Nat} {draw : Bool} (hd : draw = true → drawOk c ops = true) {k : Nat} {e : Int} (hk : k < ops.size)
    (hr : runD c z ops asm (some (k, e)) ops.toList 0 s = some s') (hR : Rel w0 N s β a w)
    (hQ : ∀ s1 β a w w', Grow c s s1 → Rel w0 N s1 β a w → Left w0 N c s1 β a w' → Q (.panic (errChain e)) a w') : (Code.region id ops draw).wp P Q a w := by
  cases draw with
  | false =>
    refine wp_region ?_
    rw [List.range_eq_range', ← Array.length_toList]
    exact text_dead E hN hQ ops.toList 0 s s' β a w (by simp) (Nat.zero_le _) (by simpa using hk) (Grow.refl _) hr hR
  | true =>
    refine wp_region_any E.mixed (anyS_dead (k := k) (asm := asm) (Post := fun _ => True) (s0 := s) E hN hQ _ _ s β a _ (by simp) (by simp [hk]) (Grow.refl _) ?_ hR.drew)
    have := anyS_lex (dk := some (k, e)) (Post := fun _ => True) hz ops.toList 0 (Array.replicate ops.size false) s s' hR.wf (by simp) (by simpa [drawOk] using hd rfl) hr trivial
    simpa using this
end
end Go.Adit

namespace Go.Adit
open Go.RowKit

section
variable {P : Program} {w0 : Base} {N : Nat} {s s' : St} {β : Nat → Option Nat} {a : Act} {w : World} {c : Cfg} {z : Zs} {ops : Array Oper} {asm : List (Nat × Bool)}

/-- what is assumed is so, of one operation -/
def AsmAt (c : Cfg) (z : Zs) (ops : Array Oper) (asm : List (Nat × Bool)) (o : Oper) (i : Nat) (s : St) : Prop :=
  (∀ e v b, guardOf ops s o = .run → dieOf c s o = none → opEval c z s o = some e → asmAt asm i = some v → e.val = .s (.bool (.sym b)) → b = v) ∧
    (∀ b n v, guardOf ops s o = .run → dieOf c s o = some (.sym b, n) → asmAt asm i = some v → b = v)

/-- what is assumed is so, along the run -/
def AsmOK (c : Cfg) (z : Zs) (ops : Array Oper) (asm : List (Nat × Bool)) : List Oper → Nat → St → Prop
  | [], _, _ => True
  | o :: l, i, s => AsmAt c z ops asm o i s ∧
      (∀ s1 q, step1 c z ops asm i o s = .ok s1 q → AsmOK c z ops asm l (i + 1) s1) ∧ ∀ n s1 q, step1 c z ops asm i o s = .dead n s1 q → AsmOK c z ops asm l (i + 1) s1

theorem asmAt_below : ∀ {asm : List (Nat × Bool)} {i j : Nat}, asmBelow asm i = true → i ≤ j → asmAt asm j = none
  | [], _, _, _, _ => rfl
  | (x, v) :: l, i, j, h, hij => by
    unfold asmBelow at h
    split at h
    · rename_i hx
      have := blt_of hx
      unfold asmAt
      rw [beq_false (show ¬ x = j by omega)]
      exact asmAt_below h hij
    · cases h

theorem asmOK_none : ∀ (l : List Oper) (i : Nat) (s : St), (∀ j, i ≤ j → asmAt asm j = none) → AsmOK c z ops asm l i s
  | [], _, _, _ => trivial
  | o :: l, i, s, h => ⟨⟨fun e v b _ _ _ hv => (by rw [h i (Nat.le_refl _)] at hv; cases hv), fun b n v _ _ hv => (by rw [h i (Nat.le_refl _)] at hv; cases hv)⟩,
      fun s1 q _ => asmOK_none l (i + 1) s1 fun j hj => h j (by omega), fun n s1 q _ => asmOK_none l (i + 1) s1 fun j hj => h j (by omega)⟩

theorem okOr_ok {i : Nat} {x : Option St} {r q : List Bool} {s1 : St} (h : okOr i x r = .ok s1 q) : x = some s1 ∧ r = q := by
  cases x with
  | none => simp [okOr] at h
  | some y => simp only [okOr, Out.ok.injEq] at h; exact ⟨by rw [h.1], h.2⟩

theorem okOr_split {i j : Nat} {x : Option St} {r : List Bool} {b : Bool} (h : okOr i x r = .split j b) : False := by
  cases x <;> simp [okOr] at h

theorem okOr_dead {i : Nat} {x : Option St} {r q : List Bool} {n : Int} {s1 : St} (h : okOr i x r = .dead n s1 q) : False := by
  cases x <;> simp [okOr] at h

theorem dying_no {i : Nat} {b : BV} {n : Int} (h : dying asm i (some (b, n)) = .no) (ha : ∀ x, b = .sym x → ∀ v, asmAt asm i = some v → x = v) : b.lb = false := by
  cases b with
  | lit v => cases v with
    | false => rfl
    | true => simp [dying] at h
  | sym x =>
    simp only [dying] at h
    split at h
    · cases h
    · rename_i hv; exact ha x rfl _ hv
    · cases h

theorem dying_yes {i : Nat} {b : BV} {n m : Int} (h : dying asm i (some (b, n)) = .yes m) (ha : ∀ x, b = .sym x → ∀ v, asmAt asm i = some v → x = v) : b.lb = true ∧ m = n := by
  cases b with
  | lit v => cases v with
    | false => simp [dying] at h
    | true => simp [dying] at h; exact ⟨rfl, h.symm⟩
  | sym x =>
    simp only [dying] at h
    split at h
    · rename_i hv; simp only [Dy.yes.injEq] at h; exact ⟨ha x rfl _ hv, h.symm⟩
    · cases h
    · cases h

theorem step1_ok {dk : Option (Nat × Int)} {i : Nat} (hdk : dkAt dk i = none) {o : Oper} {s1 : St} {q : List Bool} (h : step1 c z ops asm i o s = .ok s1 q) (hq : ∀ b ∈ q, b = true)
    (hv : AsmAt c z ops asm o i s) : stepD c z ops asm dk i o s = some s1 := by
  unfold step1 at h
  unfold stepD del
  rw [hdk]
  split at h
  · cases h
  · rename_i hg
    obtain ⟨h1, _⟩ := okOr_ok h
    simp only [if_true, Option.bind_some, put2, putB, h1]
  · rename_i hg
    split at h
    · rename_i dn hdo
      split at h
      · split at h
        · cases h
        · split at h <;> cases h
      · cases h
      · rename_i hno
        split at h
        · cases h
        · rename_i e he
          obtain ⟨b, n⟩ := dn
          have hb := dying_no hno fun x hx v hav => hv.2 x n v hg (by rw [hdo, hx]) hav
          obtain ⟨h1, rfl⟩ := okOr_ok h
          have hall : e.req.all id = true := by simpa using hq
          have hdn : deadNow (dieOf c s o) = none := by rw [hdo]; simp only [deadNow, hb]
          rw [if_pos hdn]
          simp only [he, Option.bind_some, if_pos hall, hdo, Option.map_some, h1]
    · rename_i hdo
      have hdn : deadNow (dieOf c s o) = none := by rw [hdo]; rfl
      rw [if_pos hdn]
      split at h
      · cases h
      · rename_i e he
        simp only [he, Option.bind_some, hdo]
        split at h
        · rename_i v hav
          split at h
          · rename_i d hd
            obtain ⟨h1, rfl⟩ := okOr_ok h
            have hall : e.req.all id = true := by simpa using hq
            rw [if_pos hall]
            have : valD asm i e.val = some d := by
              unfold assume at hd
              unfold valD
              split at hd
              · rename_i b hb
                simp only [Option.some.injEq] at hd
                have hbv := hv.1 e v b hg hdo he hav hb
                simp only [hav]
                rw [if_pos hbv]
                exact congrArg some hd
              · cases hd
            simp only [this, Option.map_some, Option.bind_some, h1]
          · cases h
        · rename_i hav
          have h' : okOr i (put2 c s o e.val e.blk) e.req = .ok s1 q := by
            split at h
            · cases h
            · exact h
          obtain ⟨h1, rfl⟩ := okOr_ok h'
          have hall : e.req.all id = true := by simpa using hq
          rw [if_pos hall]
          have : valD asm i e.val = some e.val := by unfold valD; simp only [hav]
          simp only [this, Option.map_some, Option.bind_some, h1]

theorem step1_dead {i : Nat} {n : Int} {o : Oper} {s1 : St} {q : List Bool} (h : step1 c z ops asm i o s = .dead n s1 q) (hq : ∀ b ∈ q, b = true)
    (hv : AsmAt c z ops asm o i s) : stepD c z ops asm (some (i, n)) i o s = some s1 := by
  unfold step1 at h
  unfold stepD del
  split at h
  · cases h
  · exact (okOr_dead h).elim
  · rename_i hg
    split at h
    · rename_i dn hdo
      split at h
      · rename_i m hyes
        split at h
        · cases h
        · rename_i e he
          split at h
          · rename_i s2 hp
            simp only [Out.dead.injEq] at h
            obtain ⟨rfl, rfl, rfl⟩ := h
            obtain ⟨b, n'⟩ := dn
            obtain ⟨hb, rfl⟩ := dying_yes hyes fun x hx v hav => hv.2 x n' v hg (by rw [hdo, hx]) hav
            have hall : e.req.all id = true := by simpa using hq
            have hdn : deadNow (dieOf c s o) = dkAt (some (i, m)) i := by rw [hdo]; simp [deadNow, hb, dkAt]
            rw [if_pos hdn]
            simp only [he, Option.bind_some, if_pos hall, hdo, Option.map_some, hp]
          · cases h
      · cases h
      · split at h
        · cases h
        · exact (okOr_dead h).elim
    · split at h
      · cases h
      · split at h
        · split at h
          · exact (okOr_dead h).elim
          · cases h
        · split at h
          · cases h
          · exact (okOr_dead h).elim

theorem dkAt_ne {k i : Nat} {n : Int} (h : i ≠ k) : dkAt (some (k, n)) i = none := by simp [dkAt, h]

theorem regRun_ok : ∀ (l : List Oper) (i : Nat) (s s' : St) (r rr : List Bool) (dk : Option (Nat × Int)), regRun c z ops asm l i s r dk = .ok s' rr → (∀ b ∈ rr, b = true) → AsmOK c z ops asm l i s →
    dk = none ∧ (∀ b ∈ r, b = true) ∧ runD c z ops asm none l i s = some s'
  | [], i, s, s', r, rr, dk, h, hq, _ => by
    simp only [regRun] at h
    split at h
    · simp only [Out.ok.injEq] at h
      obtain ⟨rfl, rfl⟩ := h
      exact ⟨rfl, hq, rfl⟩
    · cases h
  | o :: l, i, s, s', r, rr, dk, h, hq, ha => by
    simp only [regRun] at h
    split at h
    · rename_i s1 q h1
      obtain ⟨k0, k1, k2⟩ := regRun_ok l (i + 1) s1 s' (r ++ q) rr dk h hq (ha.2.1 s1 q h1)
      refine ⟨k0, fun b hb => k1 b (by simp [hb]), ?_⟩
      simp only [runD, step1_ok (dk := none) rfl h1 (fun b hb => k1 b (by simp [hb])) ha.1, Option.bind_some]
      exact k2
    · rename_i n s1 q h1
      split at h
      · have := (regRun_ok l (i + 1) s1 s' (r ++ q) rr _ h hq (ha.2.2 n s1 q h1)).1
        cases this
      · cases h
    · cases h
    · cases h

theorem regRun_after : ∀ (l : List Oper) (i : Nat) (s s' : St) (r rr : List Bool) (k : Nat) (n m : Int), k < i → regRun c z ops asm l i s r (some (k, n)) = .dead m s' rr → (∀ b ∈ rr, b = true) → AsmOK c z ops asm l i s →
    m = n ∧ (∀ b ∈ r, b = true) ∧ runD c z ops asm (some (k, n)) l i s = some s'
  | [], i, s, s', r, rr, k, n, m, hk, h, hq, _ => by
    simp only [regRun, Out.dead.injEq] at h
    obtain ⟨rfl, rfl, rfl⟩ := h
    exact ⟨rfl, hq, rfl⟩
  | o :: l, i, s, s', r, rr, k, n, m, hk, h, hq, ha => by
    simp only [regRun] at h
    split at h
    · rename_i s1 q h1
      obtain ⟨k0, k1, k2⟩ := regRun_after l (i + 1) s1 s' (r ++ q) rr k n m (by omega) h hq (ha.2.1 s1 q h1)
      refine ⟨k0, fun b hb => k1 b (by simp [hb]), ?_⟩
      simp only [runD, step1_ok (dk := some (k, n)) (dkAt_ne (by omega)) h1 (fun b hb => k1 b (by simp [hb])) ha.1, Option.bind_some]
      exact k2
    · cases h
    · cases h
    · cases h

theorem regRun_dead : ∀ (l : List Oper) (i : Nat) (s s' : St) (r rr : List Bool) (m : Int), regRun c z ops asm l i s r none = .dead m s' rr → (∀ b ∈ rr, b = true) → AsmOK c z ops asm l i s →
    (∀ b ∈ r, b = true) ∧ ∃ k, i ≤ k ∧ k < i + l.length ∧ runD c z ops asm (some (k, m)) l i s = some s'
  | [], i, s, s', r, rr, m, h, hq, _ => by simp [regRun] at h
  | o :: l, i, s, s', r, rr, m, h, hq, ha => by
    simp only [regRun] at h
    split at h
    · rename_i s1 q h1
      obtain ⟨k1, k, g1, g2, k2⟩ := regRun_dead l (i + 1) s1 s' (r ++ q) rr m h hq (ha.2.1 s1 q h1)
      refine ⟨fun b hb => k1 b (by simp [hb]), k, by omega, by simp; omega, ?_⟩
      simp only [runD, step1_ok (dk := some (k, m)) (dkAt_ne (by omega)) h1 (fun b hb => k1 b (by simp [hb])) ha.1, Option.bind_some]
      exact k2
    · rename_i n s1 q h1
      obtain ⟨rfl, k1, k2⟩ := regRun_after l (i + 1) s1 s' (r ++ q) rr i n m (by omega) h hq (ha.2.2 n s1 q h1)
      refine ⟨fun b hb => k1 b (by simp [hb]), i, Nat.le_refl _, by simp, ?_⟩
      simp only [runD, step1_dead h1 (fun b hb => k1 b (by simp [hb])) ha.1, Option.bind_some]
      exact k2
    · cases h
    · cases h

theorem step1_split {i j : Nat} {o : Oper} {b : Bool} (h : step1 c z ops asm i o s = .split j b) : j = i ∧ asmAt asm i = none ∧
    ((∃ n, dieOf c s o = some (.sym b, n)) ∨ (dieOf c s o = none ∧ ∀ e, guardOf ops s o = .run → opEval c z s o = some e → e.val = .s (.bool (.sym b)))) := by
  unfold step1 at h
  split at h
  · cases h
  · exact (okOr_split h).elim
  · split at h
    · rename_i dn hdo
      split at h
      · split at h
        · cases h
        · split at h <;> cases h
      · rename_i b' hask
        simp only [Out.split.injEq] at h
        obtain ⟨rfl, rfl⟩ := h
        obtain ⟨bv, n⟩ := dn
        cases bv with
        | lit v => cases v <;> simp [dying] at hask
        | sym x =>
          simp only [dying] at hask
          split at hask
          · cases hask
          · cases hask
          · rename_i hav
            simp only [Dy.ask.injEq] at hask
            subst hask
            exact ⟨rfl, hav, .inl ⟨n, hdo⟩⟩
      · split at h
        · cases h
        · exact (okOr_split h).elim
    · rename_i hdo
      split at h
      · cases h
      · rename_i e he
        split at h
        · split at h
          · exact (okOr_split h).elim
          · cases h
        · rename_i hav
          split at h
          · rename_i b' hb hgd
            simp only [Out.split.injEq] at h
            obtain ⟨rfl, rfl⟩ := h
            refine ⟨rfl, hav, .inr ⟨hdo, fun e' _ he' => ?_⟩⟩
            rw [he] at he'
            cases he'
            exact hb
          · exact (okOr_split h).elim

theorem regRun_le : ∀ (l : List Oper) (i : Nat) (s : St) (r : List Bool) (dk : Option (Nat × Int)) (j : Nat) (b : Bool), regRun c z ops asm l i s r dk = .split j b → i ≤ j
  | [], i, s, r, dk, j, b, h => by
    simp only [regRun] at h
    split at h <;> cases h
  | o :: l, i, s, r, dk, j, b, h => by
    simp only [regRun] at h
    split at h
    · have := regRun_le l (i + 1) _ _ _ j b h; omega
    · split at h
      · have := regRun_le l (i + 1) _ _ _ j b h; omega
      · cases h
    · rename_i j' b' h1
      simp only [Out.split.injEq] at h
      obtain ⟨rfl, rfl⟩ := h
      rw [(step1_split h1).1]
      exact Nat.le_refl _
    · cases h

theorem asmAt_cons {asm : List (Nat × Bool)} {j i : Nat} {v : Bool} (h : i ≠ j) : asmAt ((j, v) :: asm) i = asmAt asm i := by
  unfold asmAt
  rw [beq_false (fun e => h e.symm)]
  cases asm <;> rfl

theorem dying_cons {j i : Nat} {v : Bool} {d : Option (BV × Int)} (h : i ≠ j) : dying ((j, v) :: asm) i d = dying asm i d := by
  unfold dying
  rw [asmAt_cons h]

theorem step1_cons {j i : Nat} {v : Bool} {o : Oper} (h : i ≠ j) : step1 c z ops ((j, v) :: asm) i o s = step1 c z ops asm i o s := by
  unfold step1
  simp only [asmAt_cons h, dying_cons h]

theorem asmOK_cons {j : Nat} {b : Bool} (hb : asmBelow asm j = true) : ∀ (l : List Oper) (i : Nat) (s : St) (r : List Bool) (dk : Option (Nat × Int)), regRun c z ops asm l i s r dk = .split j b → AsmOK c z ops asm l i s →
    AsmOK c z ops ((j, b) :: asm) l i s
  | [], i, s, r, dk, h, _ => by
    simp only [regRun] at h
    split at h <;> cases h
  | o :: l, i, s, r, dk, h, ha => by
    simp only [regRun] at h
    have low : i ≠ j → (∀ s1 q, step1 c z ops asm i o s = .ok s1 q → AsmOK c z ops ((j, b) :: asm) l (i + 1) s1) → (∀ n s1 q, step1 c z ops asm i o s = .dead n s1 q → AsmOK c z ops ((j, b) :: asm) l (i + 1) s1) →
        AsmOK c z ops ((j, b) :: asm) (o :: l) i s := fun hne k1 k2 =>
      ⟨⟨fun e v b' hg hd he hv hs => ha.1.1 e v b' hg hd he (by rw [asmAt_cons hne] at hv; exact hv) hs, fun b' n v hg hd hv => ha.1.2 b' n v hg hd (by rw [asmAt_cons hne] at hv; exact hv)⟩,
        fun s1 q h1 => k1 s1 q (by rw [step1_cons hne] at h1; exact h1), fun n s1 q h1 => k2 n s1 q (by rw [step1_cons hne] at h1; exact h1)⟩
    split at h
    · rename_i s1 q h1
      have hle := regRun_le l (i + 1) _ _ _ j b h
      refine low (by omega) (fun s2 q2 h2 => ?_) (fun n s2 q2 h2 => (by rw [h1] at h2; cases h2))
      rw [h1] at h2
      simp only [Out.ok.injEq] at h2
      obtain ⟨rfl, rfl⟩ := h2
      exact asmOK_cons hb l (i + 1) s1 _ _ h (ha.2.1 s1 q h1)
    · rename_i n s1 q h1
      split at h
      · have hle := regRun_le l (i + 1) _ _ _ j b h
        refine low (by omega) (fun s2 q2 h2 => (by rw [h1] at h2; cases h2)) (fun n' s2 q2 h2 => ?_)
        rw [h1] at h2
        simp only [Out.dead.injEq] at h2
        obtain ⟨rfl, rfl, rfl⟩ := h2
        exact asmOK_cons hb l (i + 1) s1 _ _ h (ha.2.2 n s1 q h1)
      · cases h
    · rename_i j' b' h1
      simp only [Out.split.injEq] at h
      obtain ⟨rfl, rfl⟩ := h
      obtain ⟨e1, e2, e3⟩ := step1_split h1
      subst e1
      have h5 : asmAt ((j', b') :: asm) j' = some b' := by unfold asmAt; simp
      have rest : ∀ k, j' + 1 ≤ k → asmAt ((j', b') :: asm) k = none := fun k hk => by
        rw [asmAt_cons (by omega)]; exact asmAt_below hb (by omega)
      refine ⟨⟨fun e v bb hg hd he hv hs => ?_, fun bb n v hg hd hv => ?_⟩, fun s1 q _ => asmOK_none l _ s1 rest, fun n s1 q _ => asmOK_none l _ s1 rest⟩
      · rw [h5] at hv
        cases hv
        rcases e3 with ⟨n, h6⟩ | ⟨_, h6⟩
        · rw [hd] at h6; cases h6
        · have := h6 e hg he
          rw [hs] at this
          cases this
          rfl
      · rw [h5] at hv
        cases hv
        rcases e3 with ⟨n', h6⟩ | ⟨h6, _⟩
        · rw [hd] at h6; cases h6; rfl
        · rw [hd] at h6; cases h6
    · cases h
end
end Go.Adit

namespace Go.Adit
open Go.RowKit

/-- an item of the rest, as a piece of code that is still to be carried out -/
def iwp (P : Program) (x : Item) (Q : Exit → Act → World → Prop) (a : Act) (w : World) : Prop :=
  ∀ (b : Frame) (k : List Item) (cs : List Frame), ∃ e a' w', Q e a' w' ∧ Arrives P (lone (b.at a (x :: k)) cs w) b k cs e a' w'

theorem iwp_loop {P : Program} {c : Code} {Q : Exit → Act → World → Prop} {a : Act} {w : World} (h : c.wp P (Exit.then (iwp P (.inLoop c) Q) Q) a w) : iwp P (.inLoop c) Q a w := by
  intro b k cs
  obtain ⟨e, a₁, w₁, hq, harr⟩ := h b (.inLoop c :: k) cs
  cases e with
  | normal =>
    obtain ⟨e₂, a₂, w₂, hq₂, harr₂⟩ := hq b k cs
    exact ⟨e₂, a₂, w₂, hq₂, .of_steps (.head step_inLoop harr) harr₂⟩
  | exit id => exact ⟨_, a₁, w₁, hq, .of_steps (.one step_inLoop) (.pass (x := .inLoop c) rfl (fun _ _ => .inl (by simp)) harr)⟩
  | goto l => exact ⟨_, a₁, w₁, hq, .of_steps (.one step_inLoop) (.pass (x := .inLoop c) rfl (fun _ _ => .inl (by simp)) harr)⟩
  | ret => exact ⟨_, a₁, w₁, hq, .of_steps (.one step_inLoop) (.pass (x := .inLoop c) rfl (fun _ _ => .inl (by simp)) harr)⟩
  | panic ch => exact ⟨_, a₁, w₁, hq, .of_steps (.one step_inLoop) (.pass (x := .inLoop c) rfl (fun _ _ => .inl (by simp)) harr)⟩
  | outgrown => exact ⟨_, a₁, w₁, hq, .of_steps (.one step_inLoop) (.pass (x := .inLoop c) rfl (fun _ _ => .inl (by simp)) harr)⟩

theorem wp_loop_iwp {P : Program} {c : Code} {Q : Exit → Act → World → Prop} {a : Act} {w : World} (h : c.wp P (Exit.then (iwp P (.inLoop c) Q) Q) a w) : (Code.loop c).wp P Q a w := by
  intro b k cs
  obtain ⟨e, a₁, w₁, hq, harr⟩ := h b (.inLoop c :: k) cs
  cases e with
  | normal =>
    obtain ⟨e₂, a₂, w₂, hq₂, harr₂⟩ := hq b k cs
    exact ⟨e₂, a₂, w₂, hq₂, .of_steps (.head step_loop harr) harr₂⟩
  | exit id => exact ⟨_, a₁, w₁, hq, .of_steps (.one step_loop) (.pass (x := .inLoop c) rfl (fun _ _ => .inl (by simp)) harr)⟩
  | goto l => exact ⟨_, a₁, w₁, hq, .of_steps (.one step_loop) (.pass (x := .inLoop c) rfl (fun _ _ => .inl (by simp)) harr)⟩
  | ret => exact ⟨_, a₁, w₁, hq, .of_steps (.one step_loop) (.pass (x := .inLoop c) rfl (fun _ _ => .inl (by simp)) harr)⟩
  | panic ch => exact ⟨_, a₁, w₁, hq, .of_steps (.one step_loop) (.pass (x := .inLoop c) rfl (fun _ _ => .inl (by simp)) harr)⟩
  | outgrown => exact ⟨_, a₁, w₁, hq, .of_steps (.one step_loop) (.pass (x := .inLoop c) rfl (fun _ _ => .inl (by simp)) harr)⟩

/-- what the rest of the stack makes of an exit -/
def kwp (P : Program) (Qf : Exit → Act → World → Prop) (BK : Nat → Act → World → Prop) : List K → Exit → Act → World → Prop
  | [], e, a, w => Qf e a w
  | .code _ b :: k, .normal, a, w => b.wp P (kwp P Qf BK k) a w
  | .inLoop _ b :: k, .normal, a, w => iwp P (.inLoop b) (kwp P Qf BK k) a w
  | .mark i :: _, .normal, a, w => BK i a w
  | .reg ops d _ :: k, .normal, a, w => ∀ id, (Code.region id ops d).wp P (kwp P Qf BK k) a w
  | .inBlock id :: k, .exit id', a, w => if id' = id then kwp P Qf BK k .normal a w else kwp P Qf BK k (.exit id') a w
  | .inBlock _ :: k, .normal, a, w => kwp P Qf BK k .normal a w
  | _ :: k, e, a, w => kwp P Qf BK k e a w

def regsOk (c : Cfg) : Code → Bool
  | .seq a b => regsOk c a && regsOk c b
  | .cond _ a b => regsOk c a && regsOk c b
  | .block _ b => regsOk c b
  | .loop b => regsOk c b
  | .region _ ops d => !d || drawOk c ops
  | _ => true

def K.ok (c : Cfg) : K → Bool
  | .code _ b => regsOk c b
  | .inLoop _ b => regsOk c b
  | .reg ops d _ => !d || drawOk c ops
  | _ => true

def Tr.holds (R : D → List SC → Prop) (Rd : Int → Prop) (A : Nat → List (Nat × D) → List (Nat × Blk) → Prop) : Tr → Prop
  | .ret d l => R d l
  | .die n => Rd n
  | .ite b x y => (b = true → x.holds R Rd A) ∧ (b = false → y.holds R Rd A)
  | .req l k => (∀ b ∈ l, b = true) ∧ k.holds R Rd A
  | .loop i v m => A i v m
  | .back i v m => A i v m
  | .fail _ => False

section
variable {P : Program} {w0 : Base} {N : Nat} {s s' : St} {β : Nat → Option Nat} {a : Act} {w : World} {c : Cfg} {z : Zs} {Qf : Exit → Act → World → Prop} {BK : Nat → Act → World → Prop}

theorem kwp_ret : ∀ {k : List K}, kwp P Qf BK k .ret a w = Qf .ret a w
  | [] => rfl
  | .code _ _ :: k | .inLoop _ _ :: k | .mark _ :: k | .reg _ _ _ :: k | .inBlock _ :: k => by simp only [kwp]; exact kwp_ret (k := k)

theorem kwp_panic {ch : List PanicEntry} : ∀ {k : List K}, kwp P Qf BK k (.panic ch) a w = Qf (.panic ch) a w
  | [] => rfl
  | .code _ _ :: k | .inLoop _ _ :: k | .mark _ :: k | .reg _ _ _ :: k | .inBlock _ :: k => by simp only [kwp]; exact kwp_panic (k := k)

theorem kwp_pop : ∀ {k k' : List K} {id : Nat}, popTo id k = some k' → kwp P Qf BK k' .normal a w → kwp P Qf BK k (.exit id) a w
  | [], _, _, h, _ => by simp [popTo] at h
  | .code _ _ :: k, k', id, h, hw | .inLoop _ _ :: k, k', id, h, hw | .mark _ :: k, k', id, h, hw | .reg _ _ _ :: k, k', id, h, hw => by
    simp only [kwp]; exact kwp_pop (k := k) (by simpa [popTo] using h) hw
  | .inBlock j :: k, k', id, h, hw => by
    simp only [popTo] at h
    simp only [kwp]
    split at h
    · rename_i hj
      simp only [Option.some.injEq] at h
      subst h
      rw [if_pos (beq_of hj).symm]
      exact hw
    · rename_i hj
      rw [if_neg (fun e => hj (by rw [e]; exact Nat.beq_refl _))]
      exact kwp_pop h hw

theorem then_code {b : Code} {i : Nat} {k : List K} : ∀ e a w, kwp P Qf BK (.code i b :: k) e a w → Exit.then (b.wp P (kwp P Qf BK k)) (kwp P Qf BK k) e a w := by
  intro e a w h; cases e <;> exact h

theorem then_loop {b : Code} {i : Nat} {k : List K} : ∀ e a w, kwp P Qf BK (.inLoop i b :: k) e a w → Exit.then (iwp P (.inLoop b) (kwp P Qf BK k)) (kwp P Qf BK k) e a w := by
  intro e a w h; cases e <;> exact h

theorem then_block {id : Nat} {k : List K} : ∀ e a w, kwp P Qf BK (.inBlock id :: k) e a w → Exit.inBlock id (kwp P Qf BK k) e a w := by
  intro e a w h; cases e <;> exact h

theorem loopAt_isSome : ∀ (b : Code) (i j : Nat) (k : List K), (loopAt i k b j).isSome = true ↔ i ≤ j ∧ j < i + nloops b := by
  intro b
  induction b with
  | seq x y ihx ihy =>
    intro i j k
    simp only [loopAt, nloops]
    cases h : loopAt i (.code (i + nloops x) y :: k) x j with
    | some r =>
      have := (ihx i j (.code (i + nloops x) y :: k)).1 (by rw [h]; rfl)
      simp; omega
    | none =>
      have h1 := ihx i j (.code (i + nloops x) y :: k)
      rw [h] at h1
      simp at h1
      have h2 := ihy (i + nloops x) j k
      simp only
      rw [h2]
      omega
  | cond q x y ihx ihy =>
    intro i j k
    simp only [loopAt, nloops]
    cases h : loopAt i k x j with
    | some r =>
      have := (ihx i j k).1 (by rw [h]; rfl)
      simp; omega
    | none =>
      have h1 := ihx i j k
      rw [h] at h1
      simp at h1
      have h2 := ihy (i + nloops x) j k
      simp only
      rw [h2]
      omega
  | block id x ih => intro i j k; simp only [loopAt, nloops]; exact ih i j (.inBlock id :: k)
  | loop x ih =>
    intro i j k
    simp only [loopAt, nloops]
    split
    · rename_i h; have := beq_of h; simp; omega
    · rename_i h
      rw [ih (i + 1) j (.mark i :: k)]
      have : i ≠ j := fun e => by rw [e, Nat.beq_refl] at h; cases h
      omega
  | _ => intro i j k; simp [loopAt, nloops] <;> omega
end
end Go.Adit
