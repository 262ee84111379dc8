/- Part of the proofs of the laws: lemmas and contracts, no statement of its own. -/
import Derived.Deep.Quiet
import Derived.KernelRfl
import Derived.Lib.AppendStr
import Derived.Lib.BufferWrite
import Derived.Maps.AppendAt
import Derived.WalkKit
set_option linter.unusedVariables false
set_option linter.unusedSimpArgs false
/- The leaves of the symbolic values, as plain Lean values. -/
namespace Go.Adit

structure Ext where
  kind : Int
  body : List UInt8


def liLit (n : Int) : Int := n
def liAdd (k : IntKind) (a b : Int) : Int := k.wrap (a + b)
def liSub (k : IntKind) (a b : Int) : Int := k.wrap (a - b)
def liMul (k : IntKind) (a b : Int) : Int := k.wrap (a * b)
def liQuo (k : IntKind) (a b : Int) : Int := k.wrap (a.tdiv b)
def liRem (a b : Int) : Int := a.tmod b
def liAnd (k : IntKind) (a b : Int) : Int := k.wrap (BitVec.ofInt k.bits a &&& BitVec.ofInt k.bits b).toNat
def liOr (k : IntKind) (a b : Int) : Int := k.wrap (BitVec.ofInt k.bits a ||| BitVec.ofInt k.bits b).toNat
def liXor (k : IntKind) (a b : Int) : Int := k.wrap (BitVec.ofInt k.bits a ^^^ BitVec.ofInt k.bits b).toNat
def liAndNot (k : IntKind) (a b : Int) : Int := k.wrap (BitVec.ofInt k.bits a &&& ~~~BitVec.ofInt k.bits b).toNat
def liShl (k : IntKind) (a b : Int) : Int := k.wrap (a * 2 ^ (min b.toNat k.bits))
def liShr (k : IntKind) (a b : Int) : Int := a.fdiv (2 ^ (min b.toNat k.bits))
def liConv (k : IntKind) (a : Int) : Int := k.wrap a
def liMin (a b : Int) : Int := if b < a then b else a
def liMax (a b : Int) : Int := if b > a then b else a
def liOfByte (y : UInt8) : Int := (y.toNat : Int)
def liLen (s : (List UInt8)) : Int := (s.length : Int)
def liLenX (s : (List Ext)) : Int := (s.length : Int)
def liLenT (s : (List (List UInt8))) : Int := (s.length : Int)
def liLenL (s : (List Int)) : Int := (s.length : Int)
def lyOfInt (n : Int) : UInt8 := UInt8.ofNat n.toNat
def lbLit (b : Bool) : Bool := b
def lbNot (b : Bool) : Bool := !b
def lbEqI (a b : Int) : Bool := a == b
def lbLt (a b : Int) : Bool := decide (a < b)
def lbLe (a b : Int) : Bool := decide (a ≤ b)
def lbEqB (a b : Bool) : Bool := a == b
def lbEqS (a b : (List UInt8)) : Bool := a == b
def lbAnd (a b : Bool) : Bool := a && b
def lbIte (c a b : Bool) : Bool := if c then a else b
def lsLit (l : List UInt8) : (List UInt8) := l
def lsCat (a b : (List UInt8)) : (List UInt8) := a ++ b
def lsSub (s : (List UInt8)) (lo hi : Int) : (List UInt8) := (s.take hi.toNat).drop lo.toNat
def lsAt (s : (List UInt8)) (i : Int) : UInt8 := s.getD i.toNat 0
def lsOf (l : List UInt8) : (List UInt8) := l
def lyIf (c : Bool) (a b : UInt8) : UInt8 := if c then a else b
def lxNil : (List Ext) := []
def lxCat (a b : (List Ext)) : (List Ext) := a ++ b
def lxOne (k : Int) (b : (List UInt8)) : (List Ext) := [⟨k, b⟩]
def lxSub (l : (List Ext)) (lo hi : Int) : (List Ext) := (l.take hi.toNat).drop lo.toNat
def lxKind (l : (List Ext)) (i : Int) : Int := (l.getD i.toNat ⟨0, []⟩).kind
def lxBody (l : (List Ext)) (i : Int) : (List UInt8) := (l.getD i.toNat ⟨0, []⟩).body
def ltNil : (List (List UInt8)) := []
def ltCat (a b : (List (List UInt8))) : (List (List UInt8)) := a ++ b
def ltSub (l : (List (List UInt8))) (lo hi : Int) : (List (List UInt8)) := (l.take hi.toNat).drop lo.toNat
def ltLit (l : List (List UInt8)) : (List (List UInt8)) := l
def ltAt (l : (List (List UInt8))) (i : Int) : (List UInt8) := l.getD i.toNat []
def llNil : (List Int) := []
def llLit (l : List Int) : (List Int) := l
def llCat (a b : (List Int)) : (List Int) := a ++ b
def llSub (l : (List Int)) (lo hi : Int) : (List Int) := (l.take hi.toNat).drop lo.toNat
def llAt (l : (List Int)) (i : Int) : Int := l.getD i.toNat 0
/-- two lengths that no memory is too small for -/
def lbFew (a b : Int) : Bool := decide (a + b ≤ 34359738368)
/-- the two lengths together are an int -/
def lbRoom (a b : (List UInt8)) : Bool := decide ((a.length : Int) + b.length ≤ 9223372036854775807)
end Go.Adit

/- A symbolic run of loaded code: scalars, structs by value, the call's own blocks. -/
namespace Go.Adit

/-- the name that the first argument's block bears in the callee -/
def lentName : Nat := 1000000
/-- names of blocks that no cell is known of: those of slices that grow -/
def hidBase : Nat := 500000
def hidN (n : Nat) : Bool := match Nat.ble hidBase n with | true => Nat.blt n lentName | false => false

/-- a list as a slice has it -/
inductive GL where
  | exts (l : (List Ext))
  | strs (l : (List (List UInt8)))
  | ints (l : (List Int))
  | bytes (l : (List UInt8))
def GL.lenI : GL → Int
  | .exts l => liLenX l
  | .strs l => liLenT l
  | .ints l => liLenL l
  | .bytes l => liLen l
def GL.esz : GL → Nat
  | .exts _ => 2
  | _ => 1
def GL.cat : GL → GL → Option GL
  | .exts a, .exts b => some (.exts (lxCat a b))
  | .strs a, .strs b => some (.strs (ltCat a b))
  | .ints a, .ints b => some (.ints (llCat a b))
  | .bytes a, .bytes b => some (.bytes (lsCat a b))
  | _, _ => none
def GL.sub : GL → Int → Int → GL
  | .exts l, a, b => .exts (lxSub l a b)
  | .strs l, a, b => .strs (ltSub l a b)
  | .ints l, a, b => .ints (llSub l a b)
  | .bytes l, a, b => .bytes (lsSub l a b)

inductive IV where
  | lit (n : Int)
  | sym (x : Int)
inductive BV where
  | lit (b : Bool)
  | sym (x : Bool)
def IV.li : IV → Int
  | .lit n => liLit n
  | .sym x => x
def BV.lb : BV → Bool
  | .lit b => lbLit b
  | .sym x => x

inductive SC where
  | bool (b : BV)
  | int (k : IntKind) (n : IV)
  | byte (y : UInt8)
  | str (s : (List UInt8))
  | exts (l : (List Ext)) (own : Bool)
  | strs (l : (List (List UInt8)))
  | ints (l : (List Int))
  | ptr (n off : Nat)
  | lsl (n off len cap : Nat)
  | eptr (kind : Int) (body : (List UInt8)) (off : Nat)
  | sptr (s : (List UInt8))
  | iptr (n : Int)
  | fn (f : Nat)
  | nilp
  | nils
  | gs (n e : Nat) (l : GL)
  | gv (n : Nat) (l : GL)
  | own (l : GL)
  | junk

inductive D where
  | s (x : SC)
  | agg (l : List SC)
  | tup (l : List D)

structure Blk where
  cells : List SC
  ty : Nat

structure St where
  t : Nat → Option D
  m : Nat → Option Blk

structure Eff where
  val : D
  blk : Option (Nat × Blk)
  req : List Bool

inductive Ty where
  | int (k : IntKind)
  | bool
  | str
  | struct (fs : List (Nat × Nat)) (size : Nat)
  | arr (n e size : Nat)
  | slice (e : Nat)
  | ptr (e : Nat)
  | other

def Ty.isAgg : Ty → Bool
  | .struct .. | .arr .. => true
  | _ => false
def Ty.size : Ty → Nat
  | .struct _ n => n
  | .arr _ _ n => n
  | _ => 1

def Ty.known : Ty → Bool
  | .other => false
  | _ => true

def okTy (t : Ty) : Bool := t.known && !(Nat.beq t.size 0)

def tyAt : List (Nat × Ty) → Nat → Ty
  | [], _ => .other
  | (a, x) :: r, t => match Nat.beq a t with | true => x | false => tyAt r t

structure Cfg where
  tys : List (Nat × Ty)
  call : Nat → List D → Option (D × List Bool)
  n : Nat
  /-- the types of structs and arrays that may be compared -/
  eqs : List Nat
  /-- of each loop: is it laid out round by round; else the slots and the blocks that are known at its head -/
  keep : Nat → Option (List Nat × List Nat)
  /-- the functions that write through their first argument, a pointer to a whole block of so many cells -/
  lent : Nat → Option Nat
  callm : Nat → List SC → List D → Option (D × List SC × List Bool)
  /-- when a call panics with an error, and with which -/
  die : Nat → List SC → List D → Option (BV × Int)
  /-- what must hold of a state where a call panics -/
  hold : St → Bool
  /-- the slots that nothing may write -/
  pin : Nat → Bool
  /-- the regions whose orders are looked at where they are met -/
  dyn : Nat → Bool := fun _ => false
  /-- of a slot, and of a block's cell: the type of a growing slice's elements -/
  gk : Nat → Nat → Option Nat := fun _ _ => none
  /-- the functions that hand back the slice that they are given -/
  same : Nat → Bool := fun _ => false

structure Zs where
  ext : Nat
  strs : Nat
  ints : Nat
  /-- nil slices are told as such -/
  nilv : Bool := false

def Cfg.okDst (c : Cfg) (d : Nat) : Bool := Nat.blt d c.n && !(c.pin d)

def Cfg.ty (c : Cfg) (t : Nat) : Ty := tyAt c.tys t

def zeroS : Ty → Option SC
  | .int k => some (.int k (.lit 0))
  | .bool => some (.bool (.lit false))
  | .str => some (.str (lsLit []))
  | _ => none

def repl : Nat → List SC → List SC
  | 0, _ => []
  | n + 1, l => l ++ repl n l

def zeroCells (c : Cfg) (ext : Nat) (strs : Nat) (ints : Nat) (nilv : Bool) : Nat → Nat → Option (List SC)
  | 0, _ => none
  | fuel + 1, t =>
    match c.ty t with
    | .struct fs _ => fs.foldr (fun f acc => match zeroCells c ext strs ints nilv fuel f.2, acc with | some a, some b => some (a ++ b) | _, _ => none) (some [])
    | .arr n e _ => (zeroCells c ext strs ints nilv fuel e).map (repl n)
    | .slice _ => if nilv then some [.nils] else if Nat.beq t ext then some [.exts lxNil true] else if Nat.beq t strs then some [.strs ltNil] else if Nat.beq t ints then some [.ints llNil] else none
    | x => (zeroS x).map fun s => [s]

def bytesOf (b : ByteArray) : List UInt8 := b.data.toList

def ofValue : Value → Option SC
  | .bool b => some (.bool (.lit b))
  | .int k n => if decide (k.min ≤ n) && decide (n ≤ k.max) then some (.int k (.lit n)) else none
  | .string b => if Nat.ble (bytesOf b).length 65536 then some (.str (lsLit (bytesOf b))) else none
  | .pointer none => some .nilp
  | .slice none 0 0 => some .nils
  | _ => none

def ev (s : St) : Operand → Option D
  | .tmp t => s.t t
  | .const v => (ofValue v).map .s
  | .func f => some (.s (.fn f))
  | .global _ => none

def asI : SC → Option (IntKind × IV)
  | .int k n => some (k, n)
  | .byte y => some (.u8, .sym (liOfByte y))
  | _ => none

def arithLit (o : BinOp) (k : IntKind) (x y : Int) : Option IV :=
  match o with
  | .add => some (.lit (k.wrap (x + y)))
  | .sub => some (.lit (k.wrap (x - y)))
  | .mul => some (.lit (k.wrap (x * y)))
  | .quo => if y = 0 then none else some (.lit (k.wrap (x.tdiv y)))
  | .rem => if y = 0 then none else some (.lit (x.tmod y))
  | .shl => if y < 0 then none else some (.lit (k.wrap (x * 2 ^ (min y.toNat k.bits))))
  | .shr => if y < 0 then none else some (.lit (x.fdiv (2 ^ (min y.toNat k.bits))))
  | _ => none

def arithSym (o : BinOp) (k : IntKind) (x y : IV) : Option (IV × List Bool) :=
  match o with
  | .add => some (.sym (liAdd k x.li y.li), [])
  | .sub => some (.sym (liSub k x.li y.li), [])
  | .mul => some (.sym (liMul k x.li y.li), [])
  | .quo => some (.sym (liQuo k x.li y.li), [lbNot (lbEqI y.li (liLit 0))])
  | .rem => some (.sym (liRem x.li y.li), [lbNot (lbEqI y.li (liLit 0))])
  | .and => some (.sym (liAnd k x.li y.li), [])
  | .or => some (.sym (liOr k x.li y.li), [])
  | .xor => some (.sym (liXor k x.li y.li), [])
  | .andNot => some (.sym (liAndNot k x.li y.li), [])
  | .shl => some (.sym (liShl k x.li y.li), [lbLe (liLit 0) y.li])
  | .shr => some (.sym (liShr k x.li y.li), [lbLe (liLit 0) y.li])
  | _ => none

/-- y is a written number that is not 0 (or not below 0, of a shift): nothing is asked -/
def arithReq (o : BinOp) (y : IV) (l : List Bool) : List Bool :=
  match o, y with
  | .quo, .lit n | .rem, .lit n => if n = 0 then l else []
  | .shl, .lit n | .shr, .lit n => if n < 0 then l else []
  | _, _ => l

def arith (o : BinOp) (k : IntKind) (x y : IV) : Option (IV × List Bool) :=
  match x, y with
  | .lit a, .lit b => match arithLit o k a b with
    | some v => some (v, [])
    | none => (arithSym o k x y).map fun r => (r.1, arithReq o y r.2)
  | _, _ => (arithSym o k x y).map fun r => (r.1, arithReq o y r.2)

def isCmp : BinOp → Bool
  | .eql | .neq | .lss | .leq | .gtr | .geq => true
  | _ => false

def cmpLit (o : BinOp) (x y : Int) : Bool :=
  match o with
  | .eql => x == y
  | .neq => x != y
  | .lss => decide (x < y)
  | .leq => decide (x ≤ y)
  | .gtr => decide (y < x)
  | _ => decide (y ≤ x)

def cmpSym (o : BinOp) (x y : Int) : Bool :=
  match o with
  | .eql => lbEqI x y
  | .neq => lbNot (lbEqI x y)
  | .lss => lbLt x y
  | .leq => lbLe x y
  | .gtr => lbLt y x
  | _ => lbLe y x

def cmpI (o : BinOp) (x y : IV) : BV :=
  match x, y with
  | .lit a, .lit b => .lit (cmpLit o a b)
  | _, _ => .sym (cmpSym o x.li y.li)

def negIV (k : IntKind) : IV → IV
  | .lit m => .lit (k.wrap (0 - m))
  | .sym m => .sym (liSub k (liLit 0) m)

def bvNot : BV → BV
  | .lit b => .lit (!b)
  | .sym b => .sym (lbNot b)

def bvAnd : BV → BV → BV
  | .lit false, _ => .lit false
  | .lit true, y => y
  | .sym x, .lit true => .sym x
  | .sym x, y => .sym (lbAnd x y.lb)

def bvEq : BV → BV → BV
  | .lit a, .lit b => .lit (a == b)
  | x, y => .sym (lbEqB x.lb y.lb)

def kindNo : IntKind → Nat
  | .i8 => 10 | .i16 => 11 | .i32 => 12 | .i64 => 13 | .u8 => 14 | .u16 => 15 | .u32 => 16 | .u64 => 17

def SC.kind : SC → Nat
  | .bool _ => 1
  | .str _ => 2
  | .int k _ => kindNo k
  | .byte _ => 14
  | _ => 0

/-- the cells are of the kinds that these are of -/
def alike : List SC → List SC → Bool
  | [], [] => true
  | x :: l, y :: r => match x.kind with
    | 0 => false
    | n + 1 => match Nat.beq (n + 1) y.kind with
      | true => alike l r
      | false => false
  | _, _ => false

/-- '==' of two cells of one kind -/
def eqS : SC → SC → Option BV
  | .bool a, .bool b => some (bvEq a b)
  | .str a, .str b => some (.sym (lbEqS a b))
  | x, y => match asI x, asI y with
    | some (_, a), some (_, b) => some (cmpI .eql a b)
    | _, _ => none

def eqCells : List SC → List SC → Option BV
  | [], [] => some (.lit true)
  | [x], [y] => eqS x y
  | x :: l, y :: r => match eqS x y, eqCells l r with
    | some a, some b => some (bvAnd a b)
    | _, _ => none
  | _, _ => none

def pureV (d : D) : Option Eff := some ⟨d, none, []⟩
def pureS (x : SC) : Option Eff := some ⟨.s x, none, []⟩

def memN : List Nat → Nat → Bool
  | [], _ => false
  | a :: r, n => match Nat.beq a n with | true => true | false => memN r n

def isEq : BinOp → Option Bool
  | .eql => some true
  | .neq => some false
  | _ => none

def isShift : BinOp → Bool
  | .shl | .shr => true
  | _ => false

def bvIf (e : Bool) (v : BV) : BV :=
  match e with
  | true => v
  | false => bvNot v

def binopI (op : BinOp) (k k' : IntKind) (m n : IV) : Option Eff :=
  match isShift op, decide (k = k'), isCmp op with
  | true, _, _ => (arith op k m n).bind fun r => some ⟨.s (.int k r.1), none, r.2⟩
  | false, true, true => pureS (.bool (cmpI op m n))
  | false, true, false => (arith op k m n).bind fun r => some ⟨.s (.int k r.1), none, r.2⟩
  | false, false, _ => none

def binop (c : Cfg) (z : Zs) (t : Nat) (op : BinOp) (x y : D) : Option Eff :=
  match x, y with
  | .agg a, .agg b => match isEq op, memN c.eqs t, zeroCells c z.ext z.strs z.ints z.nilv 20 t with
    | some e, true, some l => match alike l a && alike l b with
      | true => (eqCells a b).bind fun v => pureS (.bool (bvIf e v))
      | false => none
    | _, _, _ => none
  | .s (.str a), .s (.str b) => match op with
    | .add => some ⟨.s (.str (lsCat a b)), none, [lbRoom a b]⟩
    | _ => match isEq op with
      | some e => pureS (.bool (bvIf e (.sym (lbEqS a b))))
      | none => none
  | .s (.bool a), .s (.bool b) => match isEq op, c.ty t with
    | some e, .bool => pureS (.bool (bvIf e (bvEq a b)))
    | _, _ => none
  | .s (.ptr _ _), .s .nilp => match isEq op, c.ty t with
    | some e, .ptr _ => pureS (.bool (.lit (!e)))
    | _, _ => none
  | .s a, .s b => match asI a, asI b with
    | some (k, m), some (k', n) => binopI op k k' m n
    | _, _ => none
  | _, _ => none

def cellsOf : D → Option (List SC)
  | .s x => some [x]
  | .agg l => some l
  | .tup _ => none

def takeN : Nat → List SC → Option (List SC)
  | 0, _ => some []
  | _ + 1, [] => none
  | n + 1, x :: l => (takeN n l).map (x :: ·)

def setAt : List SC → Nat → List SC → Option (List SC)
  | l, 0, [] => some l
  | _ :: l, 0, y :: r => (setAt l 0 r).map (y :: ·)
  | x :: l, n + 1, r => (setAt l n r).map (x :: ·)
  | _, _, _ => none

def dropN : Nat → List SC → List SC
  | 0, l => l
  | _ + 1, [] => []
  | n + 1, _ :: l => dropN n l

def partOf (t : Ty) (l : List SC) (off : Nat) : Option D :=
  if t.isAgg then (takeN t.size (dropN off l)).map .agg
  else match dropN off l with
    | x :: _ => some (.s x)
    | [] => none

/-- may this cell lie in memory? (no address of the call's own) -/
def SC.flat : SC → Bool
  | .bool _ | .int _ _ | .byte _ | .str _ | .exts _ _ | .strs _ | .ints _ | .nils | .gs _ _ _ | .gv _ _ | .own _ | .junk => true
  | _ => false

/-- nothing of a growing slice -/
def SC.plain : SC → Bool
  | .bool _ | .int _ _ | .byte _ | .str _ | .exts _ _ | .strs _ | .ints _ | .nils => true
  | _ => false

/-- a list that bears no name, or one that is not to be seen -/
def SC.list? : SC → Option GL
  | .gs _ _ l | .gv _ l | .own l => some l
  | _ => none

def GL.asSC : GL → Option SC
  | .exts l => some (.exts l false)
  | .strs l => some (.strs l)
  | .ints l => some (.ints l)
  | .bytes _ => none

/-- a cell as the callee sees it -/
def SC.lend : SC → Option SC
  | .gs _ _ l | .gv _ l | .own l => l.asSC
  | .junk => none
  | x => match x.plain with
    | true => some x
    | false => none

def lendL : List SC → Option (List SC)
  | [] => some []
  | x :: l => match x.lend, lendL l with
    | some y, some r => some (y :: r)
    | _, _ => none

/-- what is handed back -/
def SC.give : SC → SC
  | .gs _ _ (.exts l) | .gv _ (.exts l) | .own (.exts l) => .exts l true
  | .gs _ _ l | .gv _ l => .own l
  | .nils => .exts lxNil true
  | x => x
def D.give : D → D
  | .s x => .s x.give
  | .agg l => .agg (l.map SC.give)
  | .tup l => .tup l

def fillParts (place : Nat → Option (Nat × Nat)) (s : St) : List SC → List (Nat × Operand) → Option (List SC)
  | l, [] => some l
  | l, (i, x) :: r =>
    match place i, (ev s x).bind cellsOf with
    | some (off, size), some cs => if Nat.beq cs.length size then (setAt l off cs).bind fun l' => fillParts place s l' r else none
    | _, _ => none

def nthF : List (Nat × Nat) → Nat → Option (Nat × Nat)
  | [], _ => none
  | x :: _, 0 => some x
  | _ :: l, n + 1 => nthF l n

def litNat : D → Option Nat
  | .s (.int _ (.lit n)) => match n with
    | .ofNat k => some k
    | _ => none
  | _ => none

def ivOf : D → Option IV
  | .s x => (asI x).map (·.2)
  | _ => none

def Ops.strs : List SC → Option (List (List UInt8))
  | [] => some []
  | .str s :: r => (Ops.strs r).map (s :: ·)
  | _ => none

def Ops.bytes : List SC → Option (List UInt8)
  | [] => some []
  | .byte y :: r => (Ops.bytes r).map (y :: ·)
  | .int .u8 n :: r => (Ops.bytes r).map (lyOfInt n.li :: ·)
  | _ => none

/-- the empty list of elements of a type -/
def glZero (c : Cfg) (e : Nat) : Option GL :=
  match c.ty e with
  | .int .i64 => some (.ints llNil)
  | .int .u8 => some (.bytes (lsLit []))
  | .str => some (.strs ltNil)
  | .struct [(0, a), (1, b)] 2 => match c.ty a, c.ty b with
    | .int .i64, .str => some (.exts lxNil)
    | _, _ => none
  | _ => none

/-- the cells of a slice's elements, as a list of this kind -/
def Ops.exts : List SC → Option (List Ext)
  | [] => some lxNil
  | .int .i64 k :: .str b :: r => match r with
    | [] => some (lxOne k.li b)
    | _ => (Ops.exts r).map (lxCat (lxOne k.li b))
  | _ => none
def Ops.ints : List SC → Option (List Int)
  | [] => some []
  | .int .i64 n :: r => (Ops.ints r).map (n.li :: ·)
  | _ => none
def ofCells : GL → List SC → Option GL
  | .exts _, l => (Ops.exts l).map .exts
  | .strs _, l => (Ops.strs l).map fun r => .strs (ltLit r)
  | .ints _, l => (Ops.ints l).map fun r => .ints (llLit r)
  | .bytes _, l => (Ops.bytes l).map fun r => .bytes (lsOf r)

/-- an argument as the callee sees it -/
def argOf (s : St) : D → Option D
  | .s (.lsl n off len _) => match s.m n with
    | some b => ((takeN len (dropN off b.cells)).bind Ops.strs).map fun l => .s (.strs (ltLit l))
    | none => none
  | .s x => x.lend.map .s
  | .agg l => (lendL l).map .agg
  | .tup _ => none

def argsOf (s : St) : List Operand → Option (List D)
  | [] => some []
  | x :: r => match (ev s x).bind (argOf s), argsOf s r with
    | some a, some b => some (a :: b)
    | _, _ => none

def SC.clean : SC → Bool
  | .bool _ | .int _ _ | .byte _ | .str _ | .exts _ true | .own _ => true
  | _ => false

def D.clean : D → Bool
  | .s x => x.clean
  | .agg l => l.all SC.clean
  | .tup _ => false

def D.cleanT : D → Bool
  | .tup l => l.all D.clean
  | d => d.clean

/-- an argument that names no block -/
def argFlat : D → Option D
  | .s x => x.lend.map .s
  | .agg l => (lendL l).map .agg
  | .tup _ => none

def argsFlat (s : St) : List Operand → Option (List D)
  | [] => some []
  | x :: r => match (ev s x).bind argFlat, argsFlat s r with
    | some a, some b => some (a :: b)
    | _, _ => none

/-- the block that the first argument leads to, and the other arguments -/
def lentOf (m : Nat) (s : St) : List Operand → Option (Nat × Blk × List Operand)
  | [] => none
  | x :: r => match ev s x with
    | some (.s (.ptr n off)) => match off, s.m n with
      | 0, some b => match Nat.beq b.cells.length m && b.cells.all SC.plain with
        | true => some (n, b, r)
        | false => none
      | _, _ => none
    | _ => none

/-- the call hands back the slice that it is given -/
def sameE (s : St) : List Operand → Option Eff
  | [x] => match ev s x with
    | some (.s (.gs n _ l)) => some ⟨.s (.gv n l), none, []⟩
    | some (.s .nils) => some ⟨.s .nils, none, []⟩
    | _ => none
  | _ => none

def callE (c : Cfg) (s : St) (f : Nat) (args : List Operand) : Option Eff :=
  match c.same f with
  | true => sameE s args
  | false => match c.lent f with
  | some m => (lentOf m s args).bind fun q => (argsFlat s q.2.2).bind fun l => (c.callm f q.2.1.cells l).bind fun r =>
      if r.1.cleanT && (r.2.1.all SC.clean && Nat.beq r.2.1.length q.2.1.cells.length) then some ⟨r.1, some (q.1, ⟨r.2.1, q.2.1.ty⟩), r.2.2⟩ else none
  | none => (argsOf s args).bind fun l => (c.call f l).bind fun r => if r.1.cleanT then some ⟨r.1, none, r.2⟩ else none

/-- when an operation panics, and with which error -/
def dieE (c : Cfg) (s : St) (f : Nat) (args : List Operand) : Option (BV × Int) :=
  match c.same f with
  | true => none
  | false => match c.lent f with
  | some m => (lentOf m s args).bind fun q => (argsFlat s q.2.2).bind fun l => c.die f q.2.1.cells l
  | none => (argsOf s args).bind fun l => c.die f [] l

def dieOf (c : Cfg) (s : St) (o : Oper) : Option (BV × Int) :=
  match o.op with
  | .call k => match k.callee with
    | .value (.func f) => dieE c s f k.args.toList
    | _ => none
  | _ => none

def idxReq (i : IV) (n : Int) : List Bool := [lbLe (liLit 0) i.li, lbLt i.li n]

def asY : SC → Option UInt8
  | .byte y => some y
  | .int .u8 n => some (lyOfInt n.li)
  | _ => none

/-- bytes of a text laid over bytes -/
def copyInto (b : (List UInt8)) : Nat → List SC → Option (List SC)
  | _, [] => some []
  | i, x :: r => match asY x with
    | some y => (copyInto b (i + 1) r).map (.byte (lyIf (lbLt (liLit i) (liLen b)) (lsAt b (liLit i)) y) :: ·)
    | none => none

def copyE (c : Cfg) (s : St) : List Operand → List Nat → Option Eff
  | [x, y], [t, _] => match c.ty t, ev s x, ev s y with
    | .slice e, some (.s (.lsl n off len _)), some (.s (.str b)) => match c.ty e, s.m n with
      | .int .u8, some blk => ((takeN len (dropN off blk.cells)).bind (copyInto b 0)).bind fun new => (setAt blk.cells off new).map fun l' => ⟨.s (.int .i64 (.sym (liLen b))), some (n, ⟨l', blk.ty⟩), [lbLe (liLen b) (liLit len)]⟩
      | _, _ => none
    | _, _, _ => none
  | _, _ => none

def ivsOf : Option (Option D) → Option (Option IV)
  | none => some none
  | some d => (d.bind ivOf).map some

def natOf (n : Nat) : Option (Option D) → Option Nat
  | none => some n
  | some d => d.bind litNat

def loIv : Option IV → Int
  | none => liLit 0
  | some n => n.li

def hiIv (a : (List UInt8)) : Option IV → Int
  | none => liLen a
  | some n => n.li

def loReq (a : (List UInt8)) (l h : Option IV) : List Bool :=
  match l with
  | none => []
  | some n => [lbLe (liLit 0) n.li, lbLe n.li (hiIv a h)]

def hiReq (a : (List UInt8)) (h : Option IV) : List Bool :=
  match h with
  | none => []
  | some n => [lbLe (liLit 0) n.li, lbLe n.li (liLen a)]

def minmax (mx : Bool) (s : St) : List Operand → Option Eff
  | [x, y] => match ev s x, ev s y with
    | some (.s p), some (.s q) => match asI p, asI q with
      | some (k, m), some (k', n) => if k = k' then pureS (.int k (.sym (if mx then liMax m.li n.li else liMin m.li n.li))) else none
      | _, _ => none
    | _, _ => none
  | _ => none

/-- what is appended to: the name that the slice bears from now on, and what it holds -/
def baseE (c : Cfg) (e : Nat) (dst : Option Nat) : D → Option (Nat × GL)
  | .s .nils => match dst, glZero c e with
    | some d, some l => match Nat.blt d 90000 with
      | true => some (hidBase + 400000 + d, l)
      | false => none
    | _, _ => none
  | .s (.gs n e' l) => match Nat.beq e' e && hidN n with
    | true => some (n, l)
    | false => none
  | _ => none

/-- what is appended: a list of the same kind -/
def newsE (c : Cfg) (s : St) (e : Nat) (same : Bool) (t' : Nat) (kind : GL) : D → Option GL
  | .s (.lsl n off len _) => match same, s.m n with
    | true, some b => (takeN (len * (c.ty e).size) (dropN off b.cells)).bind (ofCells kind)
    | _, _ => none
  | .s (.str b) => match c.ty t', c.ty e, kind with
    | .str, .int .u8, .bytes _ => some (.bytes b)
    | _, _, _ => none
  | .s (.exts l _) => match same with
    | true => some (.exts l)
    | false => none
  | .s (.strs l) => match same with
    | true => some (.strs l)
    | false => none
  | .s (.ints l) => match same with
    | true => some (.ints l)
    | false => none
  | .s x => match same with
    | true => x.list?
    | false => none
  | _ => none

def appendE (c : Cfg) (z : Zs) (s : St) (dst : Option Nat) : List Operand → List Nat → Option Eff
  | [x, y], [t, t'] => match c.ty t with
    | .slice e => match (ev s x).bind (baseE c e dst), zeroCells c z.ext z.strs z.ints z.nilv 20 e with
      | some (n, l), some zl => ((ev s y).bind (newsE c s e (Nat.beq t t') t' l)).bind fun l2 => (l.cat l2).bind fun r =>
          if (c.ty e).known && (Nat.beq (c.ty e).size l.esz && Nat.beq zl.length l.esz) then some ⟨.s (.gs n e r), none, [lbFew l.lenI l2.lenI]⟩ else none
      | _, _ => none
    | _ => none
  | _, _ => none

def opEval (c : Cfg) (z : Zs) (s : St) (o : Oper) : Option Eff :=
  match o.op with
  | .move x | .assign x => (ev s x).bind pureV
  | .pick k a b => match ev s k with
    | some (.s (.bool (.lit true))) => (ev s a).bind pureV
    | some (.s (.bool (.lit false))) => (ev s b).bind pureV
    | _ => none
  | .alloc t => match o.dst, zeroCells c z.ext z.strs z.ints z.nilv 20 t with
    | some d, some l => some ⟨.s (.ptr d 0), some (d, ⟨l, t⟩), []⟩
    | _, _ => none
  | .box t x => match o.dst, (ev s x).bind cellsOf with
    | some d, some l => if l.all SC.flat then some ⟨.s (.ptr d 0), some (d, ⟨l, t⟩), []⟩ else none
    | _, _ => none
  | .build t ps => match c.ty t, zeroCells c z.ext z.strs z.ints z.nilv 20 t with
    | .struct fs _, some l => if fs.all fun f => (c.ty f.2).known then (fillParts (fun i => (nthF fs i).map fun f => (f.1, (c.ty f.2).size)) s l ps.toList).map fun r => ⟨.agg r, none, []⟩ else none
    | .arr _ e _, some l => if (c.ty e).known then (fillParts (fun i => some (i * (c.ty e).size, (c.ty e).size)) s l ps.toList).map fun r => ⟨.agg r, none, []⟩ else none
    | _, _ => none
  | .buildSlice t len ps => match c.ty t, o.dst with
    | .slice e, some d => match zeroCells c z.ext z.strs z.ints z.nilv 20 e with
      | some zl => (fillParts (fun i => some (i * (c.ty e).size, (c.ty e).size)) s (repl len zl) ps.toList).bind fun r =>
          if r.all SC.flat && ((c.ty e).known && (Nat.ble (len * (c.ty e).size) 65536 && (Nat.beq zl.length (c.ty e).size && Nat.blt 0 (c.ty e).size))) then some ⟨.s (.lsl d 0 len len), some (d, ⟨r, e⟩), []⟩ else none
      | none => none
    | _, _ => none
  | .load t a => match ev s a with
    | some (.s (.ptr n off)) => match s.m n with
      | some b => if (c.ty t).known then (partOf (c.ty t) b.cells off).bind pureV else none
      | none => none
    | some (.s (.eptr kd bd off)) => match c.ty t, off with
      | .struct _ 2, 0 => pureV (.agg [.int .i64 (.sym kd), .str bd])
      | .int .i64, 0 => pureS (.int .i64 (.sym kd))
      | .str, 1 => pureS (.str bd)
      | _, _ => none
    | some (.s (.sptr x)) => match c.ty t with
      | .str => pureS (.str x)
      | _ => none
    | some (.s (.iptr x)) => match c.ty t with
      | .int .i64 => pureS (.int .i64 (.sym x))
      | _ => none
    | _ => none
  | .store t a x => match ev s a, (ev s x).bind cellsOf with
    | some (.s (.ptr n off)), some cs => match s.m n with
      | some b => if (c.ty t).known && (Nat.beq cs.length (c.ty t).size && cs.all SC.flat) then (setAt b.cells off cs).map fun l => ⟨.tup [], some (n, ⟨l, b.ty⟩), []⟩ else none
      | none => none
    | _, _ => none
  | .nilCheck x => match ev s x with
    | some (.s (.ptr n off)) => pureS (.ptr n off)
    | _ => none
  | .binOp op t x y _ => match ev s x, ev s y with
    | some a, some b => binop c z t op a b
    | _, _ => none
  | .unOp op _ x => match op, ev s x with
    | .not, some (.s (.bool b)) => pureS (.bool (bvNot b))
    | .neg, some (.s (.int k n)) => pureS (.int k (negIV k n))
    | _, _ => none
  | .convert src dst x => match c.ty src, c.ty dst, ev s x with
    | .int _, .int k, some (.s a) => (asI a).bind fun r => pureS (.int k (match r.2 with | .lit n => .lit (k.wrap n) | .sym n => .sym (liConv k n)))
    | .slice e, .str, some (.s (.lsl n off len _)) => match s.m n, c.ty e with
      | some b, .int .u8 => if Nat.ble len 65536 then ((takeN len (dropN off b.cells)).bind Ops.bytes).bind fun l => pureS (.str (lsOf l)) else none
      | _, _ => none
    | .slice e, .str, some (.s (.gs _ _ (.bytes l))) => match c.ty e with
      | .int .u8 => pureS (.str l)
      | _ => none
    | _, _, _ => none
  | .slice t x lo hi none => match c.ty t, ev s x, lo.map (ev s), hi.map (ev s) with
    | .str, some (.s (.str a)), l, h =>
      match ivsOf l, ivsOf h with
      | some l', some h' => some ⟨.s (.str (lsSub a (loIv l') (hiIv a h'))), none, loReq a l' h' ++ hiReq a h'⟩
      | _, _ => none
    | .arr n e _, some (.s (.ptr b off)), l, h =>
      match natOf 0 l, natOf n h with
      | some l', some h' => if (Nat.ble l' h' && Nat.ble h' n) && (Nat.blt l' n && ((c.ty e).known && Nat.ble n 65536)) then pureS (.lsl b (off + l' * (c.ty e).size) (h' - l') (n - l')) else none
      | _, _ => none
    | .slice e, some (.s (.gs n _ gl)), none, some (some h) => (ivOf h).bind fun k => if (c.ty e).known && Nat.beq (c.ty e).size gl.esz then some ⟨.s (.gv n (gl.sub (liLit 0) k.li)), none, [lbLe (liLit 0) k.li, lbLe k.li gl.lenI]⟩ else none
    | _, _, _, _ => none
  | .fieldAddr t x f => match c.ty t, ev s x with
    | .struct fs _, some (.s (.ptr n off)) => (nthF fs f).bind fun p => if okTy (c.ty p.2) then pureS (.ptr n (off + p.1)) else none
    | .struct fs _, some (.s (.eptr kd bd off)) => (nthF fs f).bind fun p => if okTy (c.ty p.2) then pureS (.eptr kd bd (off + p.1)) else none
    | _, _ => none
  | .field t x f => match c.ty t, ev s x with
    | .struct fs _, some (.agg l) => (nthF fs f).bind fun p => if (c.ty p.2).known then (partOf (c.ty p.2) l p.1).bind pureV else none
    | _, _ => none
  | .indexAddr t x i => match c.ty t, ev s x, ev s i with
    | .arr n e _, some (.s (.ptr b off)), some j => (litNat j).bind fun k => if Nat.blt k n && (c.ty e).known then pureS (.ptr b (off + k * (c.ty e).size)) else none
    | .slice e, some (.s (.exts l _)), some j => (ivOf j).bind fun k => if (c.ty e).known && Nat.beq (c.ty e).size 2 then some ⟨.s (.eptr (lxKind l k.li) (lxBody l k.li) 0), none, idxReq k (liLenX l)⟩ else none
    | .slice e, some (.s (.strs l)), some j => (ivOf j).bind fun k => if (c.ty e).known && Nat.beq (c.ty e).size 1 then some ⟨.s (.sptr (ltAt l k.li)), none, idxReq k (liLenT l)⟩ else none
    | .slice e, some (.s (.ints l)), some j => (ivOf j).bind fun k => if (c.ty e).known && Nat.beq (c.ty e).size 1 then some ⟨.s (.iptr (llAt l k.li)), none, idxReq k (liLenL l)⟩ else none
    | .slice e, some (.s (.lsl b off len _)), some j => (litNat j).bind fun k => if Nat.blt k len && (c.ty e).known then pureS (.ptr b (off + k * (c.ty e).size)) else none
    | .slice e, some (.s x), some j => (ivOf j).bind fun k => if (c.ty e).known then match x.list? with
        | some (.exts l) => if Nat.beq (c.ty e).size 2 then some ⟨.s (.eptr (lxKind l k.li) (lxBody l k.li) 0), none, idxReq k (liLenX l)⟩ else none
        | some (.strs l) => if Nat.beq (c.ty e).size 1 then some ⟨.s (.sptr (ltAt l k.li)), none, idxReq k (liLenT l)⟩ else none
        | some (.ints l) => if Nat.beq (c.ty e).size 1 then some ⟨.s (.iptr (llAt l k.li)), none, idxReq k (liLenL l)⟩ else none
        | _ => none
      else none
    | _, _, _ => none
  | .index t x i => match c.ty t, ev s x, ev s i with
    | .str, some (.s (.str a)), some j => (ivOf j).bind fun k => some ⟨.s (.byte (lsAt a k.li)), none, idxReq k (liLen a)⟩
    | .arr n e _, some (.agg l), some j => (litNat j).bind fun k => if Nat.blt k n && (c.ty e).known then (partOf (c.ty e) l (k * (c.ty e).size)).bind pureV else none
    | _, _, _ => none
  | .extract x i => match ev s x with
    | some (.tup l) => (l[i]?.bind fun d => if d.clean then some d else none).bind pureV
    | _ => none
  | .call k => match k.callee with
    | .value (.func f) => callE c s f k.args.toList
    | .builtin .len => match k.args.toList, k.argTypes.toList with
      | [x], t :: _ => match ev s x, c.ty t with
        | some (.s (.str a)), .str => pureS (.int .i64 (.sym (liLen a)))
        | some (.s (.exts a _)), .slice _ => pureS (.int .i64 (.sym (liLenX a)))
        | some (.s (.strs a)), .slice _ => pureS (.int .i64 (.sym (liLenT a)))
        | some (.s (.ints a)), .slice _ => pureS (.int .i64 (.sym (liLenL a)))
        | some (.s (.lsl _ _ n _)), .slice _ => pureS (.int .i64 (.lit n))
        | some (.s .nils), .slice _ => pureS (.int .i64 (.lit 0))
        | some (.s x), .slice _ => x.list?.bind fun l => pureS (.int .i64 (.sym l.lenI))
        | _, _ => none
      | _, _ => none
    | .builtin .append => appendE c z s o.dst k.args.toList k.argTypes.toList
    | .builtin .copy => copyE c s k.args.toList k.argTypes.toList
    | .builtin .min => minmax false s k.args.toList
    | .builtin .max => minmax true s k.args.toList
    | _ => none
  | .makeSlice t l n => match c.ty t, (ev s l).bind litNat, (ev s n).bind litNat, o.dst with
    | .slice e, some len, some cap, some d => match zeroCells c z.ext z.strs z.ints z.nilv 20 e with
      | some zl => if Nat.beq len cap && ((c.ty e).known && (Nat.ble (len * (c.ty e).size) 65536 && (Nat.beq zl.length (c.ty e).size && (Nat.blt 0 (c.ty e).size && Nat.blt 0 len)))) then some ⟨.s (.lsl d 0 len len), some (d, ⟨repl len zl, e⟩), []⟩ else none
      | none => none
    | _, _, _, _ => none
  | _ => none

/-- the name of a slice that an operation has appended to: no other slice of that name is one any longer -/
def appName (o : Oper) (v : D) : Option Nat :=
  match o.op with
  | .call k => match k.callee with
    | .builtin .append => match v with
      | .s (.gs n _ _) => some n
      | _ => none
    | _ => none
  | _ => none

def SC.hasG (n : Nat) : SC → Bool
  | .gs m _ _ => Nat.beq m n
  | .gv m _ => Nat.beq m n
  | .ptr m _ => Nat.beq m n
  | .lsl m _ _ _ => Nat.beq m n
  | .eptr _ _ _ | .sptr _ | .iptr _ => true
  | _ => false
def SC.kill (n : Nat) (x : SC) : SC := match x.hasG n with | true => .junk | false => x
def D.hasG1 (n : Nat) : D → Bool
  | .s x => x.hasG n
  | .agg l => l.any (SC.hasG n)
  | .tup _ => true
def D.hasG (n : Nat) : D → Bool
  | .tup l => l.any (D.hasG1 n)
  | d => d.hasG1 n
def killS (n : Nat) (s : St) : St :=
  { t := fun u => match s.t u with
      | some d => match d.hasG n with
        | true => none
        | false => some d
      | none => none
    m := fun u => match s.m u with
      | some b => some ⟨b.cells.map (SC.kill n), b.ty⟩
      | none => none }
def killO (o : Oper) (v : D) (s : St) : St :=
  match appName o v with
  | some n => killS n s
  | none => s

def updT (f : Nat → Option D) (n : Nat) (d : D) : Nat → Option D := fun u => match Nat.beq u n with | true => some d | false => f u
def updM (f : Nat → Option Blk) (n : Nat) (d : Blk) : Nat → Option Blk := fun u => match Nat.beq u n with | true => some d | false => f u

def putD (c : Cfg) (s : St) (dst : Option Nat) (v : D) : Option St :=
  match dst with
  | none => some s
  | some d => if c.okDst d then some { s with t := updT s.t d v } else none

/-- writes into a block that is there -/
def isWr : Op → Bool
  | .store .. => true
  | .call _ => true
  | _ => false

/-- a new block must have a new name -/
def putB (o : Oper) (s : St) : Option (Nat × Blk) → Option St
  | none => some s
  | some (n, b) => match isWr o.op with
    | true => some { s with m := updM s.m n b }
    | false => match s.m n, Nat.ble hidBase n with
      | none, false => some { s with m := updM s.m n b }
      | _, _ => none

inductive Out where
  | ok (s : St) (req : List Bool)
  | dead (n : Int) (s : St) (req : List Bool)
  | split (j : Nat) (b : Bool)
  | fail (i : Nat)

def asmAt : List (Nat × Bool) → Nat → Option Bool
  | [], _ => none
  | (a, x) :: r, t => match Nat.beq a t with | true => some x | false => asmAt r t

def isGuardL : List Oper → Nat → Bool
  | [], _ => false
  | o :: l, i => match o.guard with
    | none => isGuardL l i
    | some (j, _) => match Nat.beq j i with
      | true => true
      | false => isGuardL l i

inductive Gd where
  | run
  | skip
  | bad

def guardOf (ops : Array Oper) (s : St) (o : Oper) : Gd :=
  match o.guard with
  | none => .run
  | some (j, want) => match (ops[j]?).bind (·.dst) with
    | none => .bad
    | some d => match s.t d with
      | some (.s (.bool (.lit b))) => if b == want then .run else .skip
      | some (.tup []) => .skip
      | _ => .bad

/-- the value, behind an assumption on it -/
def assume (v : Bool) : D → Option D
  | .s (.bool (.sym _)) => some (.s (.bool (.lit v)))
  | _ => none

def put2 (c : Cfg) (s : St) (o : Oper) (v : D) (b : Option (Nat × Blk)) : Option St :=
  (putB o s b).bind fun s' => putD c (killO o v s') o.dst v

def okOr (i : Nat) (x : Option St) (r : List Bool) : Out :=
  match x with
  | some s => .ok s r
  | none => .fail i

/-- does the operation panic? a split where that is open -/
inductive Dy where
  | no
  | yes (n : Int)
  | ask (b : Bool)

def dying (asm : List (Nat × Bool)) (i : Nat) : Option (BV × Int) → Dy
  | none => .no
  | some (.lit false, _) => .no
  | some (.lit true, n) => .yes n
  | some (.sym b, n) => match asmAt asm i with
    | some true => .yes n
    | some false => .no
    | none => .ask b

def step1 (c : Cfg) (z : Zs) (ops : Array Oper) (asm : List (Nat × Bool)) (i : Nat) (o : Oper) (s : St) : Out :=
  match guardOf ops s o with
  | .bad => .fail i
  | .skip => okOr i (putD c s o.dst (.tup [])) []
  | .run => match dieOf c s o with
    | some dn => match dying asm i (some dn) with
      | .yes n => match opEval c z s o with
        | none => .fail i
        | some e => match put2 c s o e.val e.blk with
          | some s' => .dead n s' e.req
          | none => .fail i
      | .ask b => .split i b
      | .no => match opEval c z s o with
        | none => .fail i
        | some e => okOr i (put2 c s o e.val e.blk) e.req
    | none => match opEval c z s o with
      | none => .fail i
      | some e => match asmAt asm i with
        | some v => match assume v e.val with
          | some d => okOr i (put2 c s o d e.blk) e.req
          | none => .fail i
        | none => match e.val, isGuardL ops.toList i with
          | .s (.bool (.sym b)), true => .split i b
          | _, _ => okOr i (put2 c s o e.val e.blk) e.req

def regRun (c : Cfg) (z : Zs) (ops : Array Oper) (asm : List (Nat × Bool)) : List Oper → Nat → St → List Bool → Option (Nat × Int) → Out
  | [], _, s, r, dk => match dk with
    | none => .ok s r
    | some (_, n) => .dead n s r
  | o :: l, i, s, r, dk => match step1 c z ops asm i o s with
    | .ok s' q => regRun c z ops asm l (i + 1) s' (r ++ q) dk
    | .dead n s' q => match dk with
      | none => regRun c z ops asm l (i + 1) s' (r ++ q) (some (i, n))
      | some _ => .fail i
    | .split j b => .split j b
    | .fail j => .fail j

def asmBelow : List (Nat × Bool) → Nat → Bool
  | [], _ => true
  | (a, _) :: l, i => match Nat.blt a i with
    | true => asmBelow l i
    | false => false

/-- 0: looks at its operands alone · 1: looks into memory · 2: makes a block · 3: writes · 5: appends -/
def opCls (c : Cfg) : Op → Nat
  | .move _ | .assign _ | .pick .. | .build .. | .binOp .. | .unOp .. | .fieldAddr .. | .field .. | .indexAddr .. | .index .. | .extract .. | .slice .. | .nilCheck _ => 0
  | .convert .. | .load .. => 1
  | .call k => match k.callee with
    | .value (.func f) => match c.lent f with
      | none => 1
      | some _ => 3
    | .builtin .copy => 3
    | .builtin .append => 5
    | _ => 1
  | .alloc _ | .box .. | .buildSlice .. | .makeSlice .. => 2
  | .store .. => 3
  | _ => 4

def indepCls (i j : Nat) : Bool :=
  !(Nat.ble 4 i) && (!(Nat.ble 4 j) && (!(Nat.beq i 3 && (Nat.beq j 1 || Nat.beq j 3)) && !(Nat.beq j 3 && Nat.beq i 1)))

def indep (c : Cfg) (ops : Array Oper) (x y : Oper) : Bool := x.apart ops y && indepCls (opCls c x.op) (opCls c y.op)

def opSlots (o : Oper) : List Nat := o.op.operands.toList.filterMap fun | .tmp t => some t | _ => none

def optIs (o : Option Nat) (t : Nat) : Bool :=
  match o with
  | some d => Nat.beq d t
  | none => false

def writers (ops : Array Oper) (t : Nat) : Nat := (ops.toList.filter fun o => optIs o.dst t).length

/-- who writes this slot comes ahead of it -/
def slotsOk (ops : Array Oper) (x : Oper) : Bool :=
  (opSlots x).all fun t => match writers ops t with
    | 0 => true
    | 1 => x.after.any fun e => Region.binds .any e && optIs ((ops[e.on]?).bind (·.dst)) t
    | _ => false

/-- each slot that it looks at holds something, in the end -/
def slotsAre (s : St) (x : Oper) : Bool := (opSlots x).all fun t => (s.t t).isSome

def D.nmL : D → List Nat
  | .s (.ptr n _) => [n]
  | .s (.lsl n _ _ _) => [n]
  | .s _ => []
  | .agg l => l.flatMap fun x => match x with | .ptr n _ => [n] | .lsl n _ _ _ => [n] | _ => []
  | .tup _ => []

def namesIn (s : St) (x : Oper) : List Nat := (opSlots x).flatMap fun t => match s.t t with | some d => d.nmL | none => []

/-- the slot that it writes is written by no other, and holds what the append spares -/
def dstOk (ops : Array Oper) (s : St) (n : Nat) (x : Oper) : Bool :=
  match x.dst with
  | none => true
  | some q => Nat.beq (writers ops q) 1 && match s.t q with
    | some d => !(d.hasG n)
    | none => false

def appDst (ops : Array Oper) (s : St) (x : Oper) : Option Nat :=
  match x.dst with
  | some q => match Nat.beq (writers ops q) 1 with
    | true => (s.t q).bind fun d => appName x d
    | false => none
  | none => none

/-- as it shows in the state behind them all: the two may change places -/
def sepD (c : Cfg) (ops : Array Oper) (s : St) (x y : Oper) : Bool :=
  ((slotsOk ops x && slotsAre s x) && ((slotsOk ops y && slotsAre s y) && (!(Nat.ble 4 (opCls c x.op)) && (!(Nat.ble 4 (opCls c y.op)) && (namesIn s x).all fun n => !(memN (namesIn s y) n))))) ||
  ((slotsOk ops y && slotsAre s y) && (Nat.beq (opCls c x.op) 5 && (Nat.beq (opCls c y.op) 0 && match appDst ops s x with | some n => dstOk ops s n y | none => false))) ||
  ((slotsOk ops x && slotsAre s x) && (Nat.beq (opCls c y.op) 5 && (Nat.beq (opCls c x.op) 0 && match appDst ops s y with | some n => dstOk ops s n x | none => false)))

def indep2 (c : Cfg) (ops : Array Oper) (s : St) (x y : Oper) : Bool := x.apart ops y && (indepCls (opCls c x.op) (opCls c y.op) || sepD c ops s x y)

/-- the orders that a region may be carried out in: what is not bound to come behind is independent -/
def freeG (ind : Oper → Oper → Bool) (ops : Array Oper) (listed : Array Bool) (i : Nat) : Bool :=
  match ops[i]? with
  | none => false
  | some oi => (List.range ops.size).all fun j => Nat.beq j i || listed.getD j true || match ops[j]? with
      | some oj => oj.after.any (fun e => Region.binds .any e && Nat.beq e.on i) || ind oi oj
      | none => true

def lexG (ind : Oper → Oper → Bool) (ops : Array Oper) : Nat → Nat → Array Bool → Bool
  | 0, _, listed => (Region.ready .any ops listed).isEmpty
  | n + 1, k, listed => (Region.ready .any ops listed).contains k && (freeG ind ops listed k && lexG ind ops n (k + 1) (listed.setIfInBounds k true))

def drawOk (c : Cfg) (ops : Array Oper) : Bool := lexG (indep c ops) ops ops.size 0 (Array.replicate ops.size false)
def drawOk2 (c : Cfg) (ops : Array Oper) (s : St) : Bool := lexG (indep2 c ops s) ops ops.size 0 (Array.replicate ops.size false)

def dynOk (c : Cfg) (ops : Array Oper) (s : St) (dy d : Bool) : Bool :=
  match dy, d with
  | true, true => drawOk2 c ops s
  | _, _ => true

inductive K where
  | code (i : Nat) (b : Code)
  | inBlock (id : Nat)
  | inScope
  | inLoop (i : Nat) (b : Code)
  | mark (i : Nat)
  | reg (ops : Array Oper) (draw dyn : Bool) (asm : List (Nat × Bool))

inductive Tr where
  | ret (d : D) (l : List SC)
  | die (n : Int)
  | ite (b : Bool) (x y : Tr)
  | req (l : List Bool) (k : Tr)
  | loop (i : Nat) (v : List (Nat × D)) (m : List (Nat × Blk))
  | back (i : Nat) (v : List (Nat × D)) (m : List (Nat × Blk))
  | fail (why : Nat)

def nloops : Code → Nat
  | .seq a b => nloops a + nloops b
  | .cond _ a b => nloops a + nloops b
  | .block _ b => nloops b
  | .loop b => nloops b + 1
  | .scope b => nloops b
  | _ => 0

def popTo (id : Nat) : List K → Option (List K)
  | [] => none
  | .inBlock j :: k => if Nat.beq j id then some k else popTo id k
  | _ :: k => popTo id k

def resOf (c : Cfg) (s : St) : ResultVar → Option D
  | .tmp t => match s.t t with
    | some (.s .nils) => match (c.gk t 0).bind (glZero c) with
      | some l => some (.s (SC.give (.own l)))
      | none => some (.s (.exts lxNil true))
    | some d => if d.give.clean then some d.give else none
    | none => none
  | .cell a t => match s.t a with
    | some (.s (.ptr n off)) => match s.m n with
      | some b => if (c.ty t).known then (partOf (c.ty t) b.cells off).bind fun d => if d.give.clean then some d.give else none else none
      | none => none
    | _ => none

def ressOf (c : Cfg) (s : St) : List ResultVar → Option (List D)
  | [] => some []
  | x :: r => match resOf c s x, ressOf c s r with
    | some a, some b => some (a :: b)
    | _, _ => none

def finish (c : Cfg) (rs : List ResultVar) (s : St) : Tr :=
  match ressOf c s rs with
  | some [d] => match s.m lentName with
    | none => .ret d []
    | some b => if b.cells.all SC.clean then .ret d b.cells else .fail 10
  | some l => match s.m lentName with
    | none => .ret (.tup l) []
    | some b => if b.cells.all SC.clean then .ret (.tup l) b.cells else .fail 10
  | none => .fail 1

def SC.names : SC → List Nat
  | .ptr n _ => [n]
  | .lsl n _ _ _ => [n]
  | _ => []

def D.named (ok : Nat → Bool) : D → Bool
  | .s x => x.names.all ok
  | .agg l => l.all fun x => x.names.all ok
  | .tup [] => true
  | .tup _ => false

/-- a nil slice that will grow, told as one that does -/
def weakS (c : Cfg) (n i : Nat) (name : Nat) : SC → SC
  | .nils => match c.gk n i with
    | some e => match glZero c e with
      | some l => .gs name e l
      | none => .nils
    | none => .nils
  | x => x
def weakD (c : Cfg) (n : Nat) : D → D
  | .s x => .s (weakS c n 0 (hidBase + n) x)
  | d => d
def weakL (c : Cfg) (n : Nat) : Nat → List SC → List SC
  | _, [] => []
  | i, x :: l => weakS c n i (hidBase + 100000 + n * 64 + i) x :: weakL c n (i + 1) l

def viewT (c : Cfg) (s : St) (bs : List Nat) : List Nat → Option (List (Nat × D))
  | [] => some []
  | t :: r => match s.t t, viewT c s bs r with
    | some d, some l => if d.named (memN bs) then some ((t, weakD c t d) :: l) else none
    | _, _ => none

def viewM (c : Cfg) (s : St) : List Nat → Option (List (Nat × Blk))
  | [] => some []
  | t :: r => match s.m t, viewM c s r with
    | some d, some l => some ((t, ⟨weakL c t 0 d.cells, d.ty⟩) :: l)
    | _, _ => none

def view (c : Cfg) (s : St) (k : List Nat × List Nat) (f : List (Nat × D) → List (Nat × Blk) → Tr) : Tr :=
  match viewT c s k.2 k.1, viewM c s k.2 with
  | some v, some m => f v m
  | _, _ => .fail 5

def lookT : List (Nat × D) → Nat → Option D
  | [], _ => none
  | (a, x) :: r, t => match Nat.beq t a with | true => some x | false => lookT r t

def lookM : List (Nat × Blk) → Nat → Option Blk
  | [], _ => none
  | (a, x) :: r, t => match Nat.beq t a with | true => some x | false => lookM r t

def St.of (v : List (Nat × D)) (m : List (Nat × Blk)) : St := { t := lookT v, m := lookM m }

def sym (c : Cfg) (z : Zs) (rs : List ResultVar) : Nat → List K → St → Tr
  | 0, _, _ => .fail 0
  | _ + 1, [], s => finish c rs s
  | n + 1, .code i x :: k, s => match x with
    | .skip => sym c z rs n k s
    | .label _ => sym c z rs n k s
    | .seq a b => sym c z rs n (.code i a :: .code (i + nloops a) b :: k) s
    | .block id b => sym c z rs n (.code i b :: .inBlock id :: k) s
    | .scope b => sym c z rs n (.code i b :: .inScope :: k) s
    | .exit id => match popTo id k with
      | some k' => sym c z rs n k' s
      | none => .fail 2
    | .ret => finish c rs s
    | .cond x a b => match ev s x with
      | some (.s (.bool (.lit true))) => sym c z rs n (.code i a :: k) s
      | some (.s (.bool (.lit false))) => sym c z rs n (.code (i + nloops a) b :: k) s
      | some (.s (.bool (.sym q))) => .ite q (sym c z rs n (.code i a :: k) s) (sym c z rs n (.code (i + nloops a) b :: k) s)
      | _ => .fail 3
    | .loop b => match c.keep i with
      | none => match nloops b with
        | 0 => sym c z rs n (.code (i + 1) b :: .inLoop i b :: k) s
        | _ + 1 => .fail 8
      | some q => view c s q (.loop i)
    | .region id ops d => sym c z rs n (.reg ops d (c.dyn id) [] :: k) s
    | _ => .fail 4
  | n + 1, .inBlock _ :: k, s => sym c z rs n k s
  | n + 1, .inScope :: k, s => sym c z rs n k s
  | n + 1, .inLoop i b :: k, s => sym c z rs n (.code (i + 1) b :: .inLoop i b :: k) s
  | _ + 1, .mark i :: _, s => match c.keep i with
      | none => .fail 6
      | some q => view c s q (.back i)
  | n + 1, .reg ops d dy asm :: k, s => match regRun c z ops asm ops.toList 0 s [] none with
    | .ok s' [] => match dynOk c ops s' dy d with
      | true => sym c z rs n k s'
      | false => .fail 11
    | .ok s' r => match dynOk c ops s' dy d with
      | true => .req r (sym c z rs n k s')
      | false => .fail 11
    | .dead e s' r => match dynOk c ops s' dy d with
      | true => match c.hold s with
        | true => .req r (.die e)
        | false => .fail 9
      | false => .fail 11
    | .split j b => match asmBelow asm j with
      | true => .ite b (sym c z rs n (.reg ops d dy ((j, true) :: asm) :: k) s) (sym c z rs n (.reg ops d dy ((j, false) :: asm) :: k) s)
      | false => .fail 7
    | .fail i => .fail (100 + i)

/-- the i-th loop of some code, and what stands behind it -/
def loopAt : Nat → List K → Code → Nat → Option (Code × List K)
  | i, k, .seq a b, j => match loopAt i (.code (i + nloops a) b :: k) a j with
    | some r => some r
    | none => loopAt (i + nloops a) k b j
  | i, k, .cond _ a b, j => match loopAt i k a j with
    | some r => some r
    | none => loopAt (i + nloops a) k b j
  | i, k, .block id b, j => loopAt i (.inBlock id :: k) b j
  | i, k, .scope b, j => loopAt i (.inScope :: k) b j
  | i, k, .loop b, j => match Nat.beq i j with
    | true => some (b, k)
    | false => loopAt (i + 1) (.mark i :: k) b j
  | _, _, _, _ => none

def roundOf (b : Code) (j : Nat) : List K :=
  match loopAt 0 [] b j with
  | some (x, k) => .code (j + 1) x :: .mark j :: k
  | none => []

def st0 (args : List D) : St :=
  { t := fun u => args[u]?, m := fun _ => none }

/-- with a block that is lent -/
def stM (cells : List SC) (args : List D) : St :=
  { t := fun u => (D.s (.ptr lentName 0) :: args)[u]?, m := fun n => match Nat.beq n lentName with | true => some ⟨cells, 0⟩ | false => none }

end Go.Adit

namespace Go.Adit
open Go.RowKit

def imax : Int := 9223372036854775807
def inR (k : IntKind) (n : Int) : Prop := k.min ≤ n ∧ n ≤ k.max

def ExtsAt (w : World) (A : Nat → Prop) (l : List Ext) (v : Value) : Prop :=
  ∃ (a : Option Go.Addr) (cap : Nat), v = .slice a l.length cap ∧ (l.length : Int) ≤ imax ∧
    (l = [] ∨ ∃ b off, a = some ⟨b, off, none⟩ ∧ b < w.heap.size ∧ A b ∧ ∀ (i : Nat) (e : Ext), l[i]? = some e →
      w.cell? ⟨b, off + i * 2, none⟩ = some (.int .i64 e.kind) ∧ inR .i64 e.kind ∧
      w.cell? ⟨b, off + i * 2 + 1, none⟩ = some (.string ⟨⟨e.body⟩⟩) ∧ (e.body.length : Int) ≤ imax)

def StrsAt (w : World) (A : Nat → Prop) (l : List (List UInt8)) (v : Value) : Prop :=
  ∃ (a : Option Go.Addr) (cap : Nat), v = .slice a l.length cap ∧ (l.length : Int) ≤ imax ∧
    (l = [] ∨ ∃ b off, a = some ⟨b, off, none⟩ ∧ b < w.heap.size ∧ A b ∧ ∀ (i : Nat) (e : List UInt8), l[i]? = some e →
      w.cell? ⟨b, off + i, none⟩ = some (.string ⟨⟨e⟩⟩) ∧ (e.length : Int) ≤ imax)

def IntsAt (w : World) (A : Nat → Prop) (l : List Int) (v : Value) : Prop :=
  ∃ (a : Option Go.Addr) (cap : Nat), v = .slice a l.length cap ∧ (l.length : Int) ≤ imax ∧
    (l = [] ∨ ∃ b off, a = some ⟨b, off, none⟩ ∧ b < w.heap.size ∧ A b ∧ ∀ (i : Nat) (e : Int), l[i]? = some e →
      w.cell? ⟨b, off + i, none⟩ = some (.int .i64 e) ∧ inR .i64 e)

def GL.len : GL → Nat
  | .exts l => l.length
  | .strs l => l.length
  | .ints l => l.length
  | .bytes l => l.length
def GL.cells : GL → List Value
  | .exts l => l.flatMap fun e => [.int .i64 e.kind, .string ⟨⟨e.body⟩⟩]
  | .strs l => l.map fun s => .string ⟨⟨s⟩⟩
  | .ints l => l.map fun n => .int .i64 n
  | .bytes l => l.map fun y => .int .u8 (y.toNat : Int)
def GL.ok : GL → Prop
  | .exts l => ∀ e ∈ l, inR .i64 e.kind ∧ (e.body.length : Int) ≤ imax
  | .strs l => ∀ s ∈ l, (s.length : Int) ≤ imax
  | .ints l => ∀ n ∈ l, inR .i64 n
  | .bytes _ => True

/-- the slice's elements are these -/
def ListAt (w : World) (A : Nat → Prop) (gl : GL) (v : Value) : Prop :=
  gl.ok ∧ (gl.len : Int) ≤ imax ∧ ∃ (a : Option Go.Addr) (cap : Nat), v = .slice a gl.len cap ∧
    (gl.len = 0 ∨ ∃ b off, a = some ⟨b, off, none⟩ ∧ b < w.heap.size ∧ A b ∧ ∀ (j : Nat) (u : Value), gl.cells[j]? = some u → w.cell? ⟨b, off + j, none⟩ = some u)

def RepS (β : Nat → Option Nat) (own : Nat → Prop) (w : World) : SC → Value → Prop
  | .bool b, v => v = .bool b.lb
  | .int k n, v => v = .int k n.li ∧ inR k n.li
  | .byte y, v => v = .int .u8 (y.toNat : Int)
  | .str s, v => v = .string ⟨⟨s⟩⟩ ∧ (s.length : Int) ≤ imax
  | .exts l o, v => ExtsAt w (fun b => (∀ n, β n ≠ some b) ∧ (o = true → own b)) l v
  | .strs l, v => StrsAt w (fun b => ∀ n, β n ≠ some b) l v
  | .ints l, v => IntsAt w (fun b => ∀ n, β n ≠ some b) l v
  | .ptr n off, v => ∃ b, β n = some b ∧ v = .pointer (some ⟨b, off, none⟩)
  | .lsl n off len cap, v => ∃ b, β n = some b ∧ v = .slice (some ⟨b, off, none⟩) len cap ∧ (len : Int) ≤ imax
  | .eptr kd bd off, v => ∃ b o, v = .pointer (some ⟨b, o + off, none⟩) ∧ b < w.heap.size ∧ (∀ n, hidN n = false → β n ≠ some b) ∧
      w.cell? ⟨b, o, none⟩ = some (.int .i64 kd) ∧ inR .i64 kd ∧ w.cell? ⟨b, o + 1, none⟩ = some (.string ⟨⟨bd⟩⟩) ∧ (bd.length : Int) ≤ imax
  | .sptr s, v => ∃ b o, v = .pointer (some ⟨b, o, none⟩) ∧ b < w.heap.size ∧ (∀ n, hidN n = false → β n ≠ some b) ∧
      w.cell? ⟨b, o, none⟩ = some (.string ⟨⟨s⟩⟩) ∧ (s.length : Int) ≤ imax
  | .iptr x, v => ∃ b o, v = .pointer (some ⟨b, o, none⟩) ∧ b < w.heap.size ∧ (∀ n, hidN n = false → β n ≠ some b) ∧
      w.cell? ⟨b, o, none⟩ = some (.int .i64 x) ∧ inR .i64 x
  | .fn f, v => v = .func (.func f) #[] #[]
  | .nilp, v => v = .pointer none
  | .nils, v => v = .slice none 0 0
  | .gs n e gl, v => gl.ok ∧ (gl.len : Int) ≤ imax ∧ w.ownsRow 0 e gl.esz v gl.len gl.cells ∧ ∀ b, v.ownBlock = some b → hidN n = true ∧ β n = some b ∧ own b
  | .gv n gl, v => ListAt w (fun b => hidN n = true ∧ β n = some b ∧ own b) gl v
  | .own gl, v => ListAt w (fun b => (∀ n, β n ≠ some b) ∧ own b) gl v
  | .junk, v => v.cells = #[v] ∧ v.oneCell' = true

def RepL (β : Nat → Option Nat) (own : Nat → Prop) (w : World) : List SC → List Value → Prop
  | [], [] => True
  | x :: l, v :: r => RepS β own w x v ∧ RepL β own w l r
  | _, _ => False

def Rep1 (β : Nat → Option Nat) (own : Nat → Prop) (w : World) : D → Value → Prop
  | .s x, v => RepS β own w x v
  | .agg l, v => ∃ cs, v = .agg ⟨cs⟩ ∧ RepL β own w l cs
  | .tup _, _ => False

def RepLs (β : Nat → Option Nat) (own : Nat → Prop) (w : World) : List D → List Value → Prop
  | [], [] => True
  | x :: l, v :: r => Rep1 β own w x v ∧ RepLs β own w l r
  | _, _ => False

def RepD (β : Nat → Option Nat) (own : Nat → Prop) (w : World) : D → Value → Prop
  | .tup l, v => ∃ vs, v = .tuple ⟨vs⟩ ∧ RepLs β own w l vs
  | d, v => Rep1 β own w d v

/-- what keeps a reading: blocks that are not the run's own stay -/
structure Step (β β' : Nat → Option Nat) (w w' : World) : Prop where
  cel : ∀ b o v, b < w.heap.size → (∀ n, β n ≠ some b) → w.cell? ⟨b, o, none⟩ = some v → w'.cell? ⟨b, o, none⟩ = some v
  size : w.heap.size ≤ w'.heap.size
  ext : ∀ n b, β n = some b → β' n = some b
  far : ∀ b, b < w.heap.size → (∀ n, β n ≠ some b) → ∀ n, β' n ≠ some b
  vis : ∀ b, b < w.heap.size → (∀ n, hidN n = false → β n ≠ some b) → ∀ n, hidN n = false → β' n ≠ some b
  hid : ∀ n b o, hidN n = true → β n = some b → w.heap[b]? = some o → w'.heap[b]? = some o

theorem Step.cell {β β' : Nat → Option Nat} {w w' : World} (h : Step β β' w w') {b o : Nat} (hb : b < w.heap.size) (hn : ∀ n, β n ≠ some b) {v : Value} (hv : w.cell? ⟨b, o, none⟩ = some v) :
    w'.cell? ⟨b, o, none⟩ = some v := h.cel b o v hb hn hv

theorem cell_obj {w : World} {b o : Nat} {v : Value} (h : w.cell? ⟨b, o, none⟩ = some v) : ∃ x, w.heap[b]? = some x := by
  cases e : w.heap[b]? with
  | some x => exact ⟨x, rfl⟩
  | none => simp [World.cell?, e] at h

theorem Step.hidCell {β β' : Nat → Option Nat} {w w' : World} (h : Step β β' w w') {n b o : Nat} (hn : hidN n = true) (hb : β n = some b) {v : Value} (hv : w.cell? ⟨b, o, none⟩ = some v) :
    w'.cell? ⟨b, o, none⟩ = some v := by
  obtain ⟨x, hx⟩ := cell_obj hv
  exact (World.cell?_of_block (w := w) ((h.hid n b x hn hb hx).trans hx.symm)).trans hv

/-- of a block that bears no name that is to be seen -/
theorem Step.visCell {β β' : Nat → Option Nat} {w w' : World} (h : Step β β' w w') {b o : Nat} (hb : b < w.heap.size) (hn : ∀ n, hidN n = false → β n ≠ some b) {v : Value} (hv : w.cell? ⟨b, o, none⟩ = some v) :
    w'.cell? ⟨b, o, none⟩ = some v := by
  by_cases hx : ∃ n, β n = some b
  · obtain ⟨n, e⟩ := hx
    cases hh : hidN n with
    | true => exact h.hidCell hh e hv
    | false => exact absurd e (hn n hh)
  · exact h.cel b o v hb (fun n e => hx ⟨n, e⟩) hv

theorem ownsRow_keep {w w' : World} {base : Nat} {e : TypeId} {size : Nat} {v : Value} {n : Nat} {xs : List Value} (h : w.ownsRow base e size v n xs) (hk : ∀ b, v.ownBlock = some b → ∀ o, w.heap[b]? = some o → w'.heap[b]? = some o) :
    w'.ownsRow base e size v n xs := by
  refine ⟨h.1, h.2.imp id ?_⟩
  rintro ⟨g, cap, cur, rfl, h1, h2, h3⟩
  exact ⟨g, cap, cur, rfl, h1, hk g rfl _ h2, h3⟩

theorem RepS.mono {β β' : Nat → Option Nat} {own : Nat → Prop} {w w' : World} (h : Step β β' w w') {x : SC} {v : Value} (hr : RepS β own w x v) : RepS β' own w' x v := by
  cases x <;> simp only [RepS] at hr ⊢
  case bool | int | byte | str | fn | nilp | nils | junk => exact hr
  case gs n e gl =>
    obtain ⟨h1, h2, h3, h4⟩ := hr
    exact ⟨h1, h2, ownsRow_keep h3 (fun b hb o ho => h.hid n b o (h4 b hb).1 (h4 b hb).2.1 ho), fun b hb => ⟨(h4 b hb).1, h.ext n b (h4 b hb).2.1, (h4 b hb).2.2⟩⟩
  case gv n gl =>
    obtain ⟨h1, h2, a, cap, e1, e2⟩ := hr
    refine ⟨h1, h2, a, cap, e1, e2.imp id ?_⟩
    rintro ⟨b, off, f1, f2, ⟨g1, g2, g3⟩, f4⟩
    exact ⟨b, off, f1, Nat.lt_of_lt_of_le f2 h.size, ⟨g1, h.ext _ _ g2, g3⟩, fun j u hu => h.hidCell g1 g2 (f4 j u hu)⟩
  case own gl =>
    obtain ⟨h1, h2, a, cap, e1, e2⟩ := hr
    refine ⟨h1, h2, a, cap, e1, e2.imp id ?_⟩
    rintro ⟨b, off, f1, f2, ⟨g1, g2⟩, f4⟩
    exact ⟨b, off, f1, Nat.lt_of_lt_of_le f2 h.size, ⟨h.far b f2 g1, g2⟩, fun j u hu => h.cell f2 g1 (f4 j u hu)⟩
  case exts l o =>
    obtain ⟨a, cap, e1, e2, e3⟩ := hr
    refine ⟨a, cap, e1, e2, e3.imp id ?_⟩
    rintro ⟨b, off, f1, f2, ⟨f3, f4⟩, f5⟩
    refine ⟨b, off, f1, Nat.lt_of_lt_of_le f2 h.size, ⟨h.far b f2 f3, f4⟩, fun i e he => ?_⟩
    obtain ⟨g1, g2, g3, g4⟩ := f5 i e he
    exact ⟨h.cell f2 f3 g1, g2, h.cell f2 f3 g3, g4⟩
  case strs l =>
    obtain ⟨a, cap, e1, e2, e3⟩ := hr
    refine ⟨a, cap, e1, e2, e3.imp id ?_⟩
    rintro ⟨b, off, f1, f2, f3, f5⟩
    refine ⟨b, off, f1, Nat.lt_of_lt_of_le f2 h.size, h.far b f2 f3, fun i e he => ?_⟩
    obtain ⟨g1, g2⟩ := f5 i e he
    exact ⟨h.cell f2 f3 g1, g2⟩
  case ints l =>
    obtain ⟨a, cap, e1, e2, e3⟩ := hr
    refine ⟨a, cap, e1, e2, e3.imp id ?_⟩
    rintro ⟨b, off, f1, f2, f3, f5⟩
    refine ⟨b, off, f1, Nat.lt_of_lt_of_le f2 h.size, h.far b f2 f3, fun i e he => ?_⟩
    obtain ⟨g1, g2⟩ := f5 i e he
    exact ⟨h.cell f2 f3 g1, g2⟩
  case ptr n off => obtain ⟨b, e1, e2⟩ := hr; exact ⟨b, h.ext _ _ e1, e2⟩
  case lsl n off len cap => obtain ⟨b, e1, e2⟩ := hr; exact ⟨b, h.ext _ _ e1, e2⟩
  case eptr kd bd off =>
    obtain ⟨b, o, e1, e2, e3, e4, e5, e6, e7⟩ := hr
    exact ⟨b, o, e1, Nat.lt_of_lt_of_le e2 h.size, h.vis b e2 e3, h.visCell e2 e3 e4, e5, h.visCell e2 e3 e6, e7⟩
  case sptr s =>
    obtain ⟨b, o, e1, e2, e3, e4, e5⟩ := hr
    exact ⟨b, o, e1, Nat.lt_of_lt_of_le e2 h.size, h.vis b e2 e3, h.visCell e2 e3 e4, e5⟩
  case iptr s =>
    obtain ⟨b, o, e1, e2, e3, e4, e5⟩ := hr
    exact ⟨b, o, e1, Nat.lt_of_lt_of_le e2 h.size, h.vis b e2 e3, h.visCell e2 e3 e4, e5⟩

theorem RepL.mono {β β' : Nat → Option Nat} {own : Nat → Prop} {w w' : World} (h : Step β β' w w') : ∀ {l : List SC} {vs : List Value}, RepL β own w l vs → RepL β' own w' l vs
  | [], [], _ => trivial
  | _ :: _, _ :: _, ⟨h1, h2⟩ => ⟨h1.mono h, RepL.mono h h2⟩
  | [], _ :: _, hr => hr
  | _ :: _, [], hr => hr

theorem Rep1.mono {β β' : Nat → Option Nat} {own : Nat → Prop} {w w' : World} (h : Step β β' w w') {d : D} {v : Value} (hr : Rep1 β own w d v) : Rep1 β' own w' d v := by
  cases d with
  | s x => exact RepS.mono h hr
  | agg l => obtain ⟨cs, e1, e2⟩ := hr; exact ⟨cs, e1, e2.mono h⟩
  | tup l => exact hr

theorem RepLs.mono {β β' : Nat → Option Nat} {own : Nat → Prop} {w w' : World} (h : Step β β' w w') : ∀ {l : List D} {vs : List Value}, RepLs β own w l vs → RepLs β' own w' l vs
  | [], [], _ => trivial
  | _ :: _, _ :: _, ⟨h1, h2⟩ => ⟨h1.mono h, RepLs.mono h h2⟩
  | [], _ :: _, hr => hr
  | _ :: _, [], hr => hr

theorem RepD.mono {β β' : Nat → Option Nat} {own : Nat → Prop} {w w' : World} (h : Step β β' w w') {d : D} {v : Value} (hr : RepD β own w d v) : RepD β' own w' d v := by
  cases d with
  | tup l => obtain ⟨vs, e1, e2⟩ := hr; exact ⟨vs, e1, e2.mono h⟩
  | s x => exact RepS.mono h hr
  | agg l => exact Rep1.mono (d := .agg l) h hr

/-- names that stand for given blocks: one after the other from the lent one's on; none -/
def pinB (b : Nat) : Nat → Option Nat := fun n => some (b + (n - lentName))
def noPin : Nat → Option Nat := fun _ => none
/-- where a run begins: the world, the blocks that are lent to it, the deferred calls that are there -/
structure Base where
  w : World
  X : Nat → Prop
  dl : List Deferred
  lb : Nat → Option Nat

abbrev Base.heap (b : Base) : Array Obj := b.w.heap

/-- what was there has stayed, but for what was lent -/
structure Kept (w0 : Base) (w : World) : Prop where
  os : w.os = w0.w.os
  tape : w.tape = w0.w.tape
  output : w.output = w0.w.output
  size : w0.heap.size ≤ w.heap.size
  block : ∀ k, k < w0.heap.size → ¬ w0.X k → w.heap[k]? = w0.heap[k]?

theorem Kept.trans {w0 : Base} {w w' : World} (h : Kept w0 w) (k : Below w.heap.size w w') : Kept w0 w' :=
  ⟨k.os.trans h.os, k.tape.trans h.tape, k.output.trans h.output, Nat.le_trans h.size k.size, fun b hb hx => (k.block b (Nat.lt_of_lt_of_le hb h.size)).trans (h.block b hb hx)⟩

/-- cells that may lie in memory -/
def flats (l : List SC) : Bool := l.all SC.flat

structure Rel (w0 : Base) (N : Nat) (s : St) (β : Nat → Option Nat) (a : Act) (w : World) : Prop where
  sz : a.tmps.size = N
  tm : ∀ t d, s.t t = some d → ∃ v, a.tmps[t]? = some v ∧ RepD β (fun b => w0.heap.size ≤ b) w d v
  mem : ∀ n blk, s.m n = some blk → ∃ b cs ty, β n = some b ∧ w.heap[b]? = some (.cells ⟨cs⟩ ty (0, 0)) ∧
    RepL β (fun b => w0.heap.size ≤ b) w blk.cells cs ∧ flats blk.cells = true
  dom : ∀ n, hidN n = false → s.m n = none → β n = none
  nhid : ∀ n, hidN n = true → s.m n = none
  inj : ∀ n n' b, β n = some b → β n' = some b → n = n'
  new : ∀ n b, β n = some b → (w0.heap.size ≤ b ∨ w0.X b) ∧ b < w.heap.size
  bel : Kept w0 w
  dfr : a.defers = w0.dl
  lnt : ∀ n b, lentName ≤ n → w0.lb n = some b → ∀ b', β n = some b' → b' = b

theorem Step.refl (β : Nat → Option Nat) (w : World) : Step β β w w := ⟨fun _ _ _ _ _ h => h, Nat.le_refl _, fun _ _ h => h, fun _ _ h => h, fun _ _ h => h, fun _ _ _ _ _ h => h⟩

theorem heap_lt {w : World} {b : Nat} {o : Obj} (h : w.heap[b]? = some o) : b < w.heap.size := (Array.getElem?_eq_some_iff.1 h).1

/-- a call that leaves all that was there -/
theorem Step.below {β : Nat → Option Nat} {w w' : World} (h : Below w.heap.size w w') : Step β β w w' :=
  ⟨fun b _ _ hb _ hv => (World.cell?_of_block (w := w) (h.block b hb)).trans hv, h.size, fun _ _ h => h, fun _ _ h => h, fun _ _ h => h, fun _ b _ _ _ ho => (h.block b (heap_lt ho)).trans ho⟩

theorem Rel.below {w0 : Base} {N : Nat} {s : St} {β : Nat → Option Nat} {a : Act} {w w' : World} (h : Rel w0 N s β a w) (hb : Below w.heap.size w w') : Rel w0 N s β a w' where
  sz := h.sz
  tm t d hd := let ⟨v, h1, h2⟩ := h.tm t d hd; ⟨v, h1, h2.mono (Step.below hb)⟩
  mem n blk hn := let ⟨b, cs, ty, h1, h2, h3, h4⟩ := h.mem n blk hn; ⟨b, cs, ty, h1, by rw [hb.block b (h.new n b h1).2]; exact h2, h3.mono (Step.below hb), h4⟩
  dom := h.dom
  nhid := h.nhid
  inj := h.inj
  new n b hn := ⟨(h.new n b hn).1, Nat.lt_of_lt_of_le (h.new n b hn).2 hb.size⟩
  bel := h.bel.trans hb
  dfr := h.dfr
  lnt := h.lnt

/-- a new name for a new block -/
def updB (β : Nat → Option Nat) (n b : Nat) : Nat → Option Nat := fun u => if u = n then some b else β u

theorem beq_false {u n : Nat} (h : ¬ u = n) : Nat.beq u n = false := by
  rw [Bool.eq_false_iff]; intro e; exact h (Nat.eq_of_beq_eq_true e)

theorem updM_at (f : Nat → Option Blk) (n : Nat) (d : Blk) (u : Nat) : updM f n d u = if u = n then some d else f u := by
  unfold updM
  by_cases h : u = n
  · subst h; simp
  · rw [if_neg h]
    rw [beq_false h]

theorem updT_at (f : Nat → Option D) (n : Nat) (d : D) (u : Nat) : updT f n d u = if u = n then some d else f u := by
  unfold updT
  by_cases h : u = n
  · subst h; simp
  · rw [if_neg h]
    rw [beq_false h]

theorem hid_of {n : Nat} (h : ¬ hidBase ≤ n) : hidN n = false := by
  unfold hidN
  split
  · rename_i e; exact absurd (Nat.le_of_ble_eq_true e) h
  · rfl
theorem Step.alloc {w0 : Base} {N : Nat} {s : St} {β : Nat → Option Nat} {a : Act} {w : World} (h : Rel w0 N s β a w) {n : Nat} (hln : ¬ hidBase ≤ n) (hn : s.m n = none) (o : Obj) :
    Step β (updB β n w.heap.size) w (w.alloc o) where
  cel b o' _ hb _ hv := (World.cell?_of_block (w := w) (Below.heap_alloc _ _ _ hb)).trans hv
  size := by simp
  ext m b hm := by
    unfold updB
    by_cases e : m = n
    · subst e; rw [h.dom _ (hid_of hln) hn] at hm; cases hm
    · rw [if_neg e]; exact hm
  far b hb hf m := by
    unfold updB
    split
    · intro e; cases e; omega
    · exact hf m
  vis b hb hf m hm := by
    unfold updB
    split
    · intro e; cases e; omega
    · exact hf m hm
  hid m b x hm hb hx := by rw [Below.heap_alloc _ _ _ (heap_lt hx)]; exact hx

theorem Rel.alloc {w0 : Base} {N : Nat} {s : St} {β : Nat → Option Nat} {a : Act} {w : World} (h : Rel w0 N s β a w) {n : Nat} (hln : ¬ hidBase ≤ n) (hn : s.m n = none) {blk : Blk} {cs : List Value} {ty : TypeId}
    (hc : RepL β (fun b => w0.heap.size ≤ b) w blk.cells cs) (hf : flats blk.cells = true) :
    Rel w0 N { s with m := updM s.m n blk } (updB β n w.heap.size) a (w.alloc (.cells ⟨cs⟩ ty)) where
  sz := h.sz
  tm t d hd := let ⟨v, h1, h2⟩ := h.tm t d hd; ⟨v, h1, h2.mono (Step.alloc h hln hn _)⟩
  mem m bk hm := by
    simp only [updM_at] at hm
    unfold updB
    by_cases e : m = n
    · subst e
      simp only [if_true, Option.some.injEq] at hm ⊢
      subst hm
      exact ⟨_, cs, ty, rfl, heap_alloc_new _ _, hc.mono (Step.alloc h hln hn _), hf⟩
    · simp only [if_neg e] at hm ⊢
      obtain ⟨b, cs', ty', h1, h2, h3, h4⟩ := h.mem m bk hm
      exact ⟨b, cs', ty', h1, by rw [Below.heap_alloc _ _ _ (h.new m b h1).2]; exact h2, h3.mono (Step.alloc h hln hn _), h4⟩
  dom m hh hm := by
    simp only [updM_at] at hm
    unfold updB
    by_cases e : m = n
    · subst e; simp at hm
    · simp only [if_neg e] at hm ⊢; exact h.dom m hh hm
  nhid m hm := by
    simp only [updM_at]
    rw [if_neg (fun e => by subst e; rw [hid_of hln] at hm; cases hm)]
    exact h.nhid m hm
  inj m m' b h1 h2 := by
    unfold updB at h1 h2
    split at h1 <;> split at h2
    · rename_i e1 e2; rw [e1, e2]
    · cases h1; have := (h.new _ _ h2).2; omega
    · cases h2; have := (h.new _ _ h1).2; omega
    · exact h.inj _ _ _ h1 h2
  new m b hm := by
    unfold updB at hm
    split at hm
    · cases hm; exact ⟨.inl h.bel.size, by simp⟩
    · have := h.new m b hm; exact ⟨this.1, by simp; omega⟩
  bel := h.bel.trans ((Below.refl _ _).alloc (Nat.le_refl _) _)
  dfr := h.dfr
  lnt n' b hn' hb b' h' := by
    unfold updB at h'
    split at h'
    · rename_i e
      unfold lentName at hn'
      unfold hidBase at hln
      omega
    · exact h.lnt n' b hn' hb b' h'

theorem Rel.put {w0 : Base} {N : Nat} {s s' : St} {β : Nat → Option Nat} {a : Act} {w : World} (h : Rel w0 N s β a w) {c : Cfg} (hN : c.n = N) {dst : Option Nat} {d : D} {v : Value}
    (hp : putD c s dst d = some s') (hv : RepD β (fun b => w0.heap.size ≤ b) w d v) : Rel w0 N s' β (a.put dst v) w := by
  cases dst with
  | none => simp only [putD, Option.some.injEq] at hp; subst hp; exact h
  | some t =>
    simp only [putD] at hp
    split at hp
    · rename_i hlt
      simp only [Option.some.injEq] at hp
      subst hp
      have hlt' : t < a.tmps.size := by rw [h.sz, ← hN]; simp only [Cfg.okDst, Bool.and_eq_true, Nat.blt_eq] at hlt; exact hlt.1
      refine { h with sz := by simpa [Act.put] using h.sz, tm := fun u e hu => ?_ }
      simp only [updT_at] at hu
      by_cases e1 : u = t
      · subst e1
        simp only [if_true, Option.some.injEq] at hu
        subst hu
        exact ⟨v, by simp [Act.put, hlt'], hv⟩
      · simp only [if_neg e1] at hu
        obtain ⟨v', h1, h2⟩ := h.tm u e hu
        refine ⟨v', ?_, h2⟩
        simp only [Act.put]
        rw [Array.getElem?_setIfInBounds_ne (by omega)]
        exact h1
    · cases hp
section
variable {w : World} {β : Nat → Option Nat}
theorem RepS.restrict {own : Nat → Prop} {β' : Nat → Option Nat} (h1 : ∀ n b, β' n = some b → β n = some b) (h3 : ∀ n, hidN n = true → β' n = β n) {x : SC} (h2 : ∀ n ∈ x.names, β' n = β n) {v : Value} (h : RepS β own w x v) : RepS β' own w x v := by
  have far : ∀ b, (∀ n, β n ≠ some b) → ∀ n, β' n ≠ some b := fun b hb n e => hb n (h1 n b e)
  have vis : ∀ b, (∀ n, hidN n = false → β n ≠ some b) → ∀ n, hidN n = false → β' n ≠ some b := fun b hb n hn e => hb n hn (h1 n b e)
  cases x <;> simp only [RepS] at h ⊢
  case bool | int | byte | str | fn | nilp | nils | junk => exact h
  case gs n e gl => exact ⟨h.1, h.2.1, h.2.2.1, fun b hb => ⟨(h.2.2.2 b hb).1, by rw [h3 n (h.2.2.2 b hb).1]; exact (h.2.2.2 b hb).2.1, (h.2.2.2 b hb).2.2⟩⟩
  case gv n gl =>
    obtain ⟨h1, h2, a, cap, e1, e2⟩ := h
    refine ⟨h1, h2, a, cap, e1, e2.imp id ?_⟩
    rintro ⟨b, off, f1, f2, ⟨g1, g2, g3⟩, f4⟩
    exact ⟨b, off, f1, f2, ⟨g1, by rw [h3 n g1]; exact g2, g3⟩, f4⟩
  case own gl =>
    obtain ⟨h1, h2, a, cap, e1, e2⟩ := h
    refine ⟨h1, h2, a, cap, e1, e2.imp id ?_⟩
    rintro ⟨b, off, f1, f2, ⟨g1, g2⟩, f4⟩
    exact ⟨b, off, f1, f2, ⟨far b g1, g2⟩, f4⟩
  case exts l o =>
    obtain ⟨a, cap, e1, e2, e3⟩ := h
    refine ⟨a, cap, e1, e2, e3.imp id ?_⟩
    rintro ⟨b, off, f1, f2, ⟨f3, f4⟩, f5⟩
    exact ⟨b, off, f1, f2, ⟨far b f3, f4⟩, f5⟩
  case strs l | ints l =>
    obtain ⟨a, cap, e1, e2, e3⟩ := h
    refine ⟨a, cap, e1, e2, e3.imp id ?_⟩
    rintro ⟨b, off, f1, f2, f3, f5⟩
    exact ⟨b, off, f1, f2, far b f3, f5⟩
  case ptr n off => obtain ⟨b, e1, e2⟩ := h; exact ⟨b, by rw [h2 n (by simp [SC.names])]; exact e1, e2⟩
  case lsl n off len cap => obtain ⟨b, e1, e2⟩ := h; exact ⟨b, by rw [h2 n (by simp [SC.names])]; exact e1, e2⟩
  case eptr kd bd off => obtain ⟨b, o, e1, e2, e3, e4⟩ := h; exact ⟨b, o, e1, e2, vis b e3, e4⟩
  case sptr x => obtain ⟨b, o, e1, e2, e3, e4⟩ := h; exact ⟨b, o, e1, e2, vis b e3, e4⟩
  case iptr x => obtain ⟨b, o, e1, e2, e3, e4⟩ := h; exact ⟨b, o, e1, e2, vis b e3, e4⟩

theorem RepL.restrict {own : Nat → Prop} {β' : Nat → Option Nat} (h1 : ∀ n b, β' n = some b → β n = some b) (h3 : ∀ n, hidN n = true → β' n = β n) : ∀ {l : List SC} {vs : List Value}, (∀ x ∈ l, ∀ n ∈ x.names, β' n = β n) → RepL β own w l vs → RepL β' own w l vs
  | [], [], _, _ => trivial
  | x :: l, v :: vs, h2, h => ⟨h.1.restrict h1 h3 (h2 x (.head _)), RepL.restrict h1 h3 (fun y hy => h2 y (.tail _ hy)) h.2⟩
  | [], _ :: _, _, h => h.elim
  | _ :: _, [], _, h => h.elim

end
end Go.Adit

namespace Go.Adit
open Go.RowKit

/-- what the program's table of types must say -/
def TyOK (P : Program) (t : Nat) : Ty → Prop
  | .int k => P.underlying t = some (.int k) ∧ (P.info? t).map (·.size) = some 1
  | .bool => P.underlying t = some .bool ∧ (P.info? t).map (·.size) = some 1
  | .str => P.underlying t = some .string ∧ (P.info? t).map (·.size) = some 1
  | .struct fs n => ∃ Fs, P.underlying t = some (.struct Fs) ∧ Fs.toList.map (fun f => (f.offset, f.type)) = fs ∧ (P.info? t).map (·.size) = some n
  | .arr n e m => P.underlying t = some (.array n e) ∧ (P.info? t).map (·.size) = some m
  | .slice e => P.underlying t = some (.slice e) ∧ (P.info? t).map (·.size) = some 1
  | .ptr e => P.underlying t = some (.pointer e) ∧ (P.info? t).map (·.size) = some 1
  | .other => True

/-- the value of an error that is panicked with -/
def errChain (n : Int) : List PanicEntry := [{ v := .iface 31 (.int .i64 n), recovered := false }]

def HasBody (P : Program) (f : FuncId) : Prop := ∃ fn, P.funcs[f]? = some fn ∧ (fn.name == "runtime.NumGoroutine") = false ∧ fn.body.isNone = false

def onlyB (b : Nat) : Nat → Option Nat := fun n => match Nat.beq n lentName with | true => some b | false => none

/-- the contract of a function: it returns what this says, and nothing that was there has turned -/
def Con (P : Program) (f : FuncId) (args : List D) (r : D) : Prop :=
  HasBody P f ∧
  ∀ (w : World) (vs : List Value), RepLs (fun _ => none) (fun _ => True) w args vs →
    Calls P f ⟨vs⟩ w fun e w' => ∃ v, e = .returned v ∧ RepD (fun _ => none) (fun b => w.heap.size ≤ b) w' r v ∧ Below w.heap.size w w'

/-- the same of one that panics with an error -/
def ConDie (P : Program) (f : FuncId) (args : List D) (n : Int) : Prop :=
  HasBody P f ∧
  ∀ (w : World) (vs : List Value), RepLs (fun _ => none) (fun _ => True) w args vs →
    Calls P f ⟨vs⟩ w fun e w' => e = .panicked (errChain n) ∧ Below w.heap.size w w'

/-- the same of one that writes through its first argument -/
def ConM (P : Program) (f : FuncId) (cells : List SC) (args : List D) (r : D) (cells' : List SC) : Prop :=
  HasBody P f ∧
  ∀ (w : World) (b : Nat) (cs : List Value) (ty : TypeId) (vs : List Value), w.heap[b]? = some (.cells ⟨cs⟩ ty (0, 0)) → RepL (onlyB b) (fun _ => True) w cells cs → RepLs (onlyB b) (fun _ => True) w args vs →
    Calls P f ⟨.pointer (some ⟨b, 0, none⟩) :: vs⟩ w fun e w' => ∃ v cs' ty', e = .returned v ∧ RepD (onlyB b) (fun b => w.heap.size ≤ b) w' r v ∧
      w'.heap[b]? = some (.cells ⟨cs'⟩ ty' (0, 0)) ∧ RepL (onlyB b) (fun b => w.heap.size ≤ b) w' cells' cs' ∧ Kept ⟨w, fun k => k = b, [], pinB b⟩ w'

def ConMDie (P : Program) (f : FuncId) (cells : List SC) (args : List D) (n : Int) : Prop :=
  HasBody P f ∧
  ∀ (w : World) (b : Nat) (cs : List Value) (ty : TypeId) (vs : List Value), w.heap[b]? = some (.cells ⟨cs⟩ ty (0, 0)) → RepL (onlyB b) (fun _ => True) w cells cs → RepLs (onlyB b) (fun _ => True) w args vs →
    Calls P f ⟨.pointer (some ⟨b, 0, none⟩) :: vs⟩ w fun e w' => e = .panicked (errChain n) ∧ Kept ⟨w, fun k => k = b, [], pinB b⟩ w'

/-- the contract of a function that hands back the slice that it is given (its capacity may be less) -/
def ConSame (P : Program) (f : FuncId) : Prop :=
  HasBody P f ∧
  ∀ (w : World) (a : Option Go.Addr) (n cap : Nat), (n : Int) ≤ imax → n ≤ cap →
    Calls P f ⟨[.slice a n cap]⟩ w fun e w' => (∃ cap', e = .returned (.slice a n cap') ∧ (cap = 0 → cap' = 0)) ∧ Below w.heap.size w w'

structure Env (P : Program) (c : Cfg) (z : Zs) : Prop where
  mixed : P.follows .mixedOrders = true
  ty : ∀ t, TyOK P t (c.ty t)
  zero : ∀ t l, zeroCells c z.ext z.strs z.ints z.nilv 20 t = some l → ∃ i v, P.info? t = some i ∧ i.zero = some v ∧
    (∀ β own w, RepL β own w l v.cells.toList) ∧ flats l = true
  eq : ∀ t l, memN c.eqs t = true → zeroCells c z.ext z.strs z.ints z.nilv 20 t = some l → ∀ a b v, alike l a = true → alike l b = true → eqCells a b = some v →
    ∀ β own w cs ds, RepL β own w a cs → RepL β own w b ds →
    (∀ op (x y : Operand), (eqGuard op t x y (.agg ⟨cs⟩) (.agg ⟨ds⟩)).run P w = .ok () w) ∧ (Op.equal t (.agg ⟨cs⟩) (.agg ⟨ds⟩)).run P w = .ok v.lb w
  call : ∀ f args r req, c.lent f = none → (∀ b n, c.die f [] args = some (b, n) → b.lb = false) → c.call f args = some (r, req) → (∀ b ∈ req, b = true) → Con P f args r
  callm : ∀ f cells args r cells' req, c.lent f = some cells.length → (∀ b n, c.die f cells args = some (b, n) → b.lb = false) → c.callm f cells args = some (r, cells', req) → (∀ b ∈ req, b = true) → ConM P f cells args r cells'
  die : ∀ f args b n, c.lent f = none → c.die f [] args = some (b, n) → b.lb = true → ConDie P f args n
  diem : ∀ f cells args b n, c.lent f = some cells.length → c.die f cells args = some (b, n) → b.lb = true → ConMDie P f cells args n
  bts : ∀ t i, (c.ty t).known = true → P.info? t = some i → i.bytes ≤ 4096 ∧ (c.ty t = .int .u8 → i.bytes = 1 ∧ i.zero = some (.int .u8 0))
  same : ∀ f, c.same f = true → ConSame P f

section
variable {P : Program} {w0 : Base} {N : Nat} {s : St} {β : Nat → Option Nat} {a : Act} {w : World} {c : Cfg} {z : Zs} {own : Nat → Prop}

theorem RepS.notAgg {x : SC} {v : Value} (h : RepS β own w x v) : v.cells = #[v] := by
  cases x <;> simp only [RepS] at h
  case bool | fn | nilp | byte => subst h; rfl
  case int | str => obtain ⟨rfl, _⟩ := h; rfl
  case exts | strs | ints => obtain ⟨a, cap, rfl, _⟩ := h; rfl
  case ptr => obtain ⟨b, _, rfl⟩ := h; rfl
  case lsl => obtain ⟨b, _, rfl, _⟩ := h; rfl
  case eptr | sptr | iptr => obtain ⟨b, o, rfl, _⟩ := h; rfl
  case nils => subst h; rfl
  case junk => exact h.1
  case gs => rcases h.2.2.1.2 with ⟨rfl, _⟩ | ⟨g, cap, cur, rfl, _⟩ <;> rfl
  case gv | own => obtain ⟨_, _, a, cap, rfl, _⟩ := h; rfl

theorem RepS.one {x : SC} {v : Value} (h : RepS β own w x v) : v.oneCell' = true := by
  cases x <;> simp only [RepS] at h
  case bool | fn | nilp | byte => subst h; rfl
  case int | str => obtain ⟨rfl, _⟩ := h; rfl
  case exts | strs | ints => obtain ⟨a, cap, rfl, _⟩ := h; rfl
  case ptr => obtain ⟨b, _, rfl⟩ := h; rfl
  case lsl => obtain ⟨b, _, rfl, _⟩ := h; rfl
  case eptr | sptr | iptr => obtain ⟨b, o, rfl, _⟩ := h; rfl
  case nils => subst h; rfl
  case junk => exact h.2
  case gs => rcases h.2.2.1.2 with ⟨rfl, _⟩ | ⟨g, cap, cur, rfl, _⟩ <;> rfl
  case gv | own => obtain ⟨_, _, a, cap, rfl, _⟩ := h; rfl

theorem RepL.one : ∀ {l : List SC} {cs : List Value}, RepL β own w l cs → ∀ v ∈ cs, v.oneCell' = true
  | [], [], _, _, hv => by cases hv
  | _ :: _, _ :: _, ⟨h1, h2⟩, v, hv => by
    rcases List.mem_cons.1 hv with rfl | hv
    · exact h1.one
    · exact RepL.one h2 v hv
  | [], _ :: _, h, _, _ => h.elim
  | _ :: _, [], h, _, _ => h.elim

theorem RepL.length : ∀ {l : List SC} {cs : List Value}, RepL β own w l cs → l.length = cs.length
  | [], [], _ => rfl
  | _ :: _, _ :: _, ⟨_, h2⟩ => by simp [RepL.length h2]
  | [], _ :: _, h => h.elim
  | _ :: _, [], h => h.elim

theorem RepL.get : ∀ {l : List SC} {cs : List Value}, RepL β own w l cs → ∀ {i : Nat} {x : SC}, l[i]? = some x → ∃ v, cs[i]? = some v ∧ RepS β own w x v
  | [], [], _, _, _, h => by simp at h
  | x :: l, v :: cs, ⟨h1, h2⟩, i, y, h => by
    cases i with
    | zero => simp at h; subst h; exact ⟨v, by simp, h1⟩
    | succ i => simp at h; obtain ⟨u, g1, g2⟩ := RepL.get h2 h; exact ⟨u, by simpa using g1, g2⟩
  | [], _ :: _, h, _, _, _ => h.elim
  | _ :: _, [], h, _, _, _ => h.elim

theorem RepL.append : ∀ {l l' : List SC} {cs ds : List Value}, RepL β own w l cs → RepL β own w l' ds → RepL β own w (l ++ l') (cs ++ ds)
  | [], _, [], _, _, h => h
  | _ :: _, _, _ :: _, _, ⟨h1, h2⟩, h => ⟨h1, RepL.append h2 h⟩
  | [], _, _ :: _, _, h, _ => h.elim
  | _ :: _, _, [], _, h, _ => h.elim

theorem RepL.drop : ∀ {l : List SC} {cs : List Value} (n : Nat), RepL β own w l cs → RepL β own w (dropN n l) (cs.drop n)
  | _, _, 0, h => h
  | [], [], _ + 1, _ => trivial
  | _ :: _, _ :: _, n + 1, ⟨_, h2⟩ => by simpa [dropN] using RepL.drop n h2
  | [], _ :: _, _ + 1, h => h.elim
  | _ :: _, [], _ + 1, h => h.elim

theorem RepL.take : ∀ {l r : List SC} {cs : List Value} (n : Nat), RepL β own w l cs → takeN n l = some r → RepL β own w r (cs.take n) ∧ n ≤ cs.length
  | _, _, _, 0, _, h => by simp [takeN] at h; subst h; exact ⟨trivial, Nat.zero_le _⟩
  | [], _, _, _ + 1, _, h => by simp [takeN] at h
  | x :: l, r, v :: cs, n + 1, ⟨h1, h2⟩, h => by
    simp only [takeN, Option.map_eq_some_iff] at h
    obtain ⟨r', hr, rfl⟩ := h
    obtain ⟨g1, g2⟩ := RepL.take n h2 hr
    exact ⟨⟨h1, g1⟩, by simp; omega⟩
  | _ :: _, _, [], _ + 1, h, _ => h.elim

theorem RepL.set : ∀ {l r l' : List SC} {cs ds : List Value} (n : Nat), RepL β own w l cs → RepL β own w r ds → setAt l n r = some l' →
    n + ds.length ≤ cs.length ∧ RepL β own w l' (cs.take n ++ (ds ++ cs.drop (n + ds.length)))
  | l, [], l', cs, [], 0, h, _, hs => by simp [setAt] at hs; subst hs; simpa using h
  | x :: l, y :: r, l', v :: cs, u :: ds, 0, ⟨_, h2⟩, ⟨g1, g2⟩, hs => by
    simp only [setAt, Option.map_eq_some_iff] at hs
    obtain ⟨l1, h1, rfl⟩ := hs
    obtain ⟨k1, k2⟩ := RepL.set 0 h2 g2 h1
    refine ⟨by simp at k1 ⊢; omega, ?_⟩
    simpa [RepL] using ⟨g1, by simpa using k2⟩
  | x :: l, r, l', v :: cs, ds, n + 1, ⟨h1, h2⟩, hr, hs => by
    have hs' : (setAt l n r).map (x :: ·) = some l' := by cases r <;> simpa [setAt] using hs
    simp only [Option.map_eq_some_iff] at hs'
    obtain ⟨l1, e1, rfl⟩ := hs'
    obtain ⟨k1, k2⟩ := RepL.set n h2 hr e1
    refine ⟨by simp; omega, ?_⟩
    have : n + 1 + ds.length = (n + ds.length) + 1 := by omega
    rw [this]
    exact ⟨h1, by simpa using k2⟩
  | [], _ :: _, _, _, _, 0, _, _, hs => by simp [setAt] at hs
  | [], r, _, _, _, n + 1, _, _, hs => by cases r <;> simp [setAt] at hs
  | _, [], _, _, _ :: _, 0, _, h, _ => h.elim
  | _, _ :: _, _, _, [], 0, _, h, _ => h.elim
  | _ :: _, _, _, [], _, n, h, _, _ => h.elim

theorem setAt_flats : ∀ {l r l' : List SC} (n : Nat), flats l = true → flats r = true → setAt l n r = some l' → flats l' = true
  | l, [], l', 0, h, _, hs => by simp [setAt] at hs; subst hs; exact h
  | x :: l, y :: r, l', 0, h, g, hs => by
    simp only [setAt, Option.map_eq_some_iff] at hs
    obtain ⟨l1, h1, rfl⟩ := hs
    simp only [flats, List.all_cons, Bool.and_eq_true] at h g ⊢
    exact ⟨g.1, setAt_flats 0 h.2 g.2 h1⟩
  | x :: l, r, l', n + 1, h, g, hs => by
    have hs' : (setAt l n r).map (x :: ·) = some l' := by cases r <;> simpa [setAt] using hs
    simp only [Option.map_eq_some_iff] at hs'
    obtain ⟨l1, e1, rfl⟩ := hs'
    simp only [flats, List.all_cons, Bool.and_eq_true] at h ⊢
    exact ⟨h.1, setAt_flats n h.2 g e1⟩
  | [], _ :: _, _, 0, _, _, hs => by simp [setAt] at hs
  | [], r, _, n + 1, _, _, hs => by cases r <;> simp [setAt] at hs

theorem Rep1.toD {d : D} {v : Value} (h : Rep1 β own w d v) : RepD β own w d v := by
  cases d with
  | s x => exact h
  | agg l => exact h
  | tup l => exact h.elim

theorem asI_rep {x : SC} {v : Value} {k : IntKind} {n : IV} (h : RepS β own w x v) (ha : asI x = some (k, n)) : v = .int k n.li ∧ inR k n.li := by
  cases x <;> simp [asI] at ha
  case int k' n' => obtain ⟨rfl, rfl⟩ := ha; exact h
  case byte y =>
    obtain ⟨rfl, rfl⟩ := ha
    refine ⟨h, ?_⟩
    have := y.toNat_lt
    simp only [inR, IV.li, liOfByte, IntKind.min, IntKind.max, IntKind.signed, IntKind.bits]
    simp
    omega

theorem ofValue_rep {v : Value} {x : SC} (h : ofValue v = some x) : RepS β own w x v := by
  cases v <;> simp [ofValue] at h
  case bool b => subst h; rfl
  case int k n => obtain ⟨⟨h1, h2⟩, rfl⟩ := h; exact ⟨rfl, h1, h2⟩
  case string b =>
    obtain ⟨h1, rfl⟩ := h
    refine ⟨rfl, ?_⟩
    have h2 : (lsLit (bytesOf b)).length ≤ 65536 := h1
    unfold imax
    omega
  case pointer a =>
    cases a with
    | none => simp at h; subst h; rfl
    | some a => simp at h
  case slice a n c =>
    split at h
    all_goals first
      | (simp only [Option.some.injEq] at h; subst h; rename_i e; simp at e; done)
      | (rename_i e; simp only [Value.slice.injEq] at e; obtain ⟨rfl, rfl, rfl⟩ := e; simp only [Option.some.injEq] at h; subst h; rfl)
      | cases h
      | (rename_i e; simp at e)

theorem ev_rep (hR : Rel w0 N s β a w) {x : Operand} {d : D} (h : ev s x = some d) : RepD β (fun b => w0.heap.size ≤ b) w d (a.eval x) := by
  cases x with
  | tmp t =>
    obtain ⟨v, h1, h2⟩ := hR.tm t d h
    have : a.tmps.getD t undef = v := by simp [Array.getD_eq_getD_getElem?, h1]
    simpa [Act.eval, this] using h2
  | const v =>
    simp only [ev, Option.map_eq_some_iff] at h
    obtain ⟨x, h1, rfl⟩ := h
    exact ofValue_rep h1
  | func f => simp only [ev, Option.some.injEq] at h; subst h; rfl
  | global g => simp [ev] at h
end
end Go.Adit

namespace Go.Adit
open Go.RowKit

section
variable {w : World} {β β2 : Nat → Option Nat} {own : Nat → Prop} {A : Nat → Prop}

theorem exts_get : ∀ {l : List Ext} {i : Nat} {e : Ext}, l[i]? = some e → (GL.exts l).cells[i * 2]? = some (.int .i64 e.kind) ∧ (GL.exts l).cells[i * 2 + 1]? = some (.string ⟨⟨e.body⟩⟩)
  | [], _, _, h => by simp at h
  | x :: l, 0, e, h => by simp at h; subst h; exact ⟨rfl, rfl⟩
  | x :: l, i + 1, e, h => by
    have := exts_get (l := l) (i := i) (by simpa using h)
    simp only [GL.cells] at this ⊢
    rw [List.flatMap_cons, show (i + 1) * 2 = i * 2 + 1 + 1 by omega, show (i * 2 + 1 + 1 + 1) = (i * 2 + 1) + 1 + 1 by omega]
    simpa using this

theorem exts_inv : ∀ {l : List Ext} {j : Nat} {u : Value}, (GL.exts l).cells[j]? = some u → ∃ i e, l[i]? = some e ∧ ((j = i * 2 ∧ u = .int .i64 e.kind) ∨ (j = i * 2 + 1 ∧ u = .string ⟨⟨e.body⟩⟩))
  | [], _, _, h => by simp [GL.cells] at h
  | x :: l, 0, u, h => by simp [GL.cells] at h; subst h; exact ⟨0, x, rfl, .inl ⟨rfl, rfl⟩⟩
  | x :: l, 1, u, h => by simp [GL.cells] at h; subst h; exact ⟨0, x, rfl, .inr ⟨rfl, rfl⟩⟩
  | x :: l, j + 2, u, h => by
    obtain ⟨i, e, h1, h2⟩ := exts_inv (l := l) (j := j) (u := u) (by simpa [GL.cells] using h)
    refine ⟨i + 1, e, by simpa using h1, h2.imp (fun h => ⟨by omega, h.2⟩) (fun h => ⟨by omega, h.2⟩)⟩

theorem cells_len (gl : GL) : gl.cells.length = gl.len * gl.esz := by
  cases gl with
  | exts l =>
    simp only [GL.cells, GL.len, GL.esz]
    induction l with
    | nil => rfl
    | cons x l ih => simp only [List.flatMap_cons, List.length_append, ih, List.length_cons, List.length_nil]; omega
  | strs l => simp [GL.cells, GL.len, GL.esz]
  | ints l => simp [GL.cells, GL.len, GL.esz]
  | bytes l => simp [GL.cells, GL.len, GL.esz]

theorem cells_one (gl : GL) : ∀ u ∈ gl.cells, u.oneCell' = true := by
  intro u hu
  cases gl with
  | exts l =>
    simp only [GL.cells, List.mem_flatMap] at hu
    obtain ⟨e, _, h⟩ := hu
    simp at h
    rcases h with rfl | rfl <;> rfl
  | strs l => simp only [GL.cells, List.mem_map] at hu; obtain ⟨_, _, rfl⟩ := hu; rfl
  | ints l => simp only [GL.cells, List.mem_map] at hu; obtain ⟨_, _, rfl⟩ := hu; rfl
  | bytes l => simp only [GL.cells, List.mem_map] at hu; obtain ⟨_, _, rfl⟩ := hu; rfl

theorem get_mem' {α : Type} {l : List α} {i : Nat} {e : α} (h : l[i]? = some e) : e ∈ l := List.mem_of_getElem? h

theorem listAt_exts {l : List Ext} {v : Value} (h : ListAt w A (.exts l) v) : ExtsAt w A l v := by
  obtain ⟨h1, h2, a, cap, e1, e2⟩ := h
  refine ⟨a, cap, e1, h2, e2.imp List.length_eq_zero_iff.1 ?_⟩
  rintro ⟨b, off, f1, f2, f3, f4⟩
  refine ⟨b, off, f1, f2, f3, fun i e he => ?_⟩
  obtain ⟨g1, g2⟩ := exts_get he
  have := h1 e (get_mem' he)
  exact ⟨f4 _ _ g1, this.1, by rw [Nat.add_assoc]; exact f4 _ _ g2, this.2⟩

theorem extsAt_list {l : List Ext} {v : Value} (h : ExtsAt w A l v) : ListAt w A (.exts l) v := by
  obtain ⟨a, cap, e1, e2, e3⟩ := h
  refine ⟨?_, e2, a, cap, e1, ?_⟩
  · rcases e3 with rfl | ⟨b, off, _, _, _, f4⟩
    · intro e he; cases he
    · intro e he
      obtain ⟨i, hi⟩ := List.getElem?_of_mem he
      have := f4 i e hi
      exact ⟨this.2.1, this.2.2.2⟩
  · refine e3.imp (fun h => by rw [h]; rfl) ?_
    rintro ⟨b, off, f1, f2, f3, f4⟩
    refine ⟨b, off, f1, f2, f3, fun j u hu => ?_⟩
    obtain ⟨i, e, h1, ⟨rfl, rfl⟩ | ⟨rfl, rfl⟩⟩ := exts_inv hu
    · exact (f4 i e h1).1
    · rw [← Nat.add_assoc]; exact (f4 i e h1).2.2.1

theorem listAt_strs {l : List (List UInt8)} {v : Value} (h : ListAt w A (.strs l) v) : StrsAt w A l v := by
  obtain ⟨h1, h2, a, cap, e1, e2⟩ := h
  refine ⟨a, cap, e1, h2, e2.imp List.length_eq_zero_iff.1 ?_⟩
  rintro ⟨b, off, f1, f2, f3, f4⟩
  exact ⟨b, off, f1, f2, f3, fun i e he => ⟨f4 i _ (by simp [GL.cells, he]), h1 e (get_mem' he)⟩⟩

theorem strsAt_list {l : List (List UInt8)} {v : Value} (h : StrsAt w A l v) : ListAt w A (.strs l) v := by
  obtain ⟨a, cap, e1, e2, e3⟩ := h
  refine ⟨?_, e2, a, cap, e1, ?_⟩
  · rcases e3 with rfl | ⟨b, off, _, _, _, f4⟩
    · intro e he; cases he
    · intro e he
      obtain ⟨i, hi⟩ := List.getElem?_of_mem he
      exact (f4 i e hi).2
  · refine e3.imp (fun h => by rw [h]; rfl) ?_
    rintro ⟨b, off, f1, f2, f3, f4⟩
    refine ⟨b, off, f1, f2, f3, fun j u hu => ?_⟩
    simp only [GL.cells, List.getElem?_map, Option.map_eq_some_iff] at hu
    obtain ⟨e, he, rfl⟩ := hu
    exact (f4 j e he).1

theorem listAt_ints {l : List Int} {v : Value} (h : ListAt w A (.ints l) v) : IntsAt w A l v := by
  obtain ⟨h1, h2, a, cap, e1, e2⟩ := h
  refine ⟨a, cap, e1, h2, e2.imp List.length_eq_zero_iff.1 ?_⟩
  rintro ⟨b, off, f1, f2, f3, f4⟩
  exact ⟨b, off, f1, f2, f3, fun i e he => ⟨f4 i _ (by simp [GL.cells, he]), h1 e (get_mem' he)⟩⟩

theorem intsAt_list {l : List Int} {v : Value} (h : IntsAt w A l v) : ListAt w A (.ints l) v := by
  obtain ⟨a, cap, e1, e2, e3⟩ := h
  refine ⟨?_, e2, a, cap, e1, ?_⟩
  · rcases e3 with rfl | ⟨b, off, _, _, _, f4⟩
    · intro e he; cases he
    · intro e he
      obtain ⟨i, hi⟩ := List.getElem?_of_mem he
      exact (f4 i e hi).2
  · refine e3.imp (fun h => by rw [h]; rfl) ?_
    rintro ⟨b, off, f1, f2, f3, f4⟩
    refine ⟨b, off, f1, f2, f3, fun j u hu => ?_⟩
    simp only [GL.cells, List.getElem?_map, Option.map_eq_some_iff] at hu
    obtain ⟨e, he, rfl⟩ := hu
    exact (f4 j e he).1

theorem ListAt.imp {A' : Nat → Prop} {gl : GL} {v : Value} (h : ListAt w A gl v) (hA : ∀ b, A b → A' b) : ListAt w A' gl v := by
  obtain ⟨h1, h2, a, cap, e1, e2⟩ := h
  refine ⟨h1, h2, a, cap, e1, e2.imp id ?_⟩
  rintro ⟨b, off, f1, f2, f3, f4⟩
  exact ⟨b, off, f1, f2, hA b f3, f4⟩

/-- a slice that grows, as one that is looked at -/
theorem gs_list {n e : Nat} {gl : GL} {v : Value} (h : RepS β own w (.gs n e gl) v) : ListAt w (fun b => hidN n = true ∧ β n = some b ∧ own b) gl v := by
  obtain ⟨h1, h2, h3, h4⟩ := h
  refine ⟨h1, h2, ?_⟩
  rcases h3.2 with ⟨rfl, h5⟩ | ⟨g, cap, cur, rfl, k1, k2, k3, k4, k5, k6⟩
  · exact ⟨none, 0, by rw [h5], .inl h5⟩
  · refine ⟨_, cap, rfl, .inr ⟨g, 0, rfl, heap_lt k2, h4 g rfl, fun j u hu => ?_⟩⟩
    have := h3.cells (g := g) rfl j u hu
    have hadd : (⟨g, 0, none⟩ : Go.Addr).add j = ⟨g, j, none⟩ := by unfold Addr.add; split <;> simp_all
    rw [hadd] at this
    rwa [Nat.zero_add]

/-- a list, whatever names it bears -/
theorem list_at {x : SC} {gl : GL} (hx : x.list? = some gl) {v : Value} (h : RepS β own w x v) : ListAt w (fun b => own b ∧ ((∀ n, β n ≠ some b) ∨ ∃ n, hidN n = true ∧ β n = some b)) gl v := by
  cases x <;> simp [SC.list?] at hx <;> subst hx
  case gs n e gl => exact (gs_list h).imp fun b hb => ⟨hb.2.2, .inr ⟨n, hb.1, hb.2.1⟩⟩
  case gv n gl => exact ListAt.imp h fun b hb => ⟨hb.2.2, .inr ⟨n, hb.1, hb.2.1⟩⟩
  case own gl => exact ListAt.imp h fun b hb => ⟨hb.2, .inl hb.1⟩

theorem listAt_asSC {gl : GL} {y : SC} (hy : gl.asSC = some y) {v : Value} (h : ListAt w (fun b => ∀ n, β2 n ≠ some b) gl v) : RepS β2 (fun _ => True) w y v := by
  cases gl <;> simp [GL.asSC] at hy <;> subst hy
  case exts l => exact listAt_exts (h.imp fun b hb => ⟨hb, fun e => (nomatch e)⟩)
  case strs l => exact listAt_strs h
  case ints l => exact listAt_ints h

/-- as the callee sees it, whose names are fewer -/
theorem RepS.lend (h2 : ∀ n b, β2 n = some b → ∃ m, hidN m = false ∧ β m = some b) (hi : ∀ n m b, hidN n = true → β n = some b → β m = some b → n = m) {x y : SC} (hx : x.lend = some y) {v : Value} (h : RepS β own w x v) :
    RepS β2 (fun _ => True) w y v := by
  have un : ∀ b, (∀ n, β n ≠ some b) → ∀ n, β2 n ≠ some b := fun b hb n e => by obtain ⟨m, _, h⟩ := h2 n b e; exact hb m h
  have hid : ∀ b n, hidN n = true → β n = some b → ∀ k, β2 k ≠ some b := fun b n h1 h3 k e => by
    obtain ⟨m, h4, h5⟩ := h2 k b e
    have := hi n m b h1 h3 h5
    subst this
    rw [h1] at h4; cases h4
  have lst : ∀ {gl : GL}, x.list? = some gl → gl.asSC = some y → RepS β2 (fun _ => True) w y v := fun {gl} hl hs =>
    listAt_asSC hs ((list_at hl h).imp fun b hb => by
      rcases hb.2 with h | ⟨n, h3, h4⟩
      · exact un b h
      · exact hid b n h3 h4)
  cases x <;> simp only [SC.lend, SC.plain] at hx
  case gs => exact lst rfl hx
  case gv => exact lst rfl hx
  case own => exact lst rfl hx
  all_goals first
    | cases hx
    | (simp only [Option.some.injEq] at hx; subst hx; simp only [RepS] at h ⊢)
  case bool | int | byte | str | nils => exact h
  case exts l o =>
    obtain ⟨a, cap, e1, e2, e3⟩ := h
    exact ⟨a, cap, e1, e2, e3.imp id fun ⟨b, off, f1, f2, f3, f4⟩ => ⟨b, off, f1, f2, ⟨un b f3.1, fun _ => trivial⟩, f4⟩⟩
  case strs l | ints l =>
    obtain ⟨a, cap, e1, e2, e3⟩ := h
    exact ⟨a, cap, e1, e2, e3.imp id fun ⟨b, off, f1, f2, f3, f4⟩ => ⟨b, off, f1, f2, un b f3, f4⟩⟩

theorem RepL.lend (h2 : ∀ n b, β2 n = some b → ∃ m, hidN m = false ∧ β m = some b) (hi : ∀ n m b, hidN n = true → β n = some b → β m = some b → n = m) : ∀ {l r : List SC} {cs : List Value}, lendL l = some r → RepL β own w l cs →
    RepL β2 (fun _ => True) w r cs
  | [], r, [], h, _ => by simp only [lendL, Option.some.injEq] at h; subst h; trivial
  | x :: l, r, v :: cs, h, ⟨g1, g2⟩ => by
    simp only [lendL] at h
    split at h
    · rename_i y r' e1 e2
      simp only [Option.some.injEq] at h; subst h
      exact ⟨g1.lend h2 hi e1, RepL.lend h2 hi e2 g2⟩
    · cases h
  | [], _, _ :: _, _, h => h.elim
  | _ :: _, _, [], _, h => h.elim

theorem Rep1.lend (h2 : ∀ n b, β2 n = some b → ∃ m, hidN m = false ∧ β m = some b) (hi : ∀ n m b, hidN n = true → β n = some b → β m = some b → n = m) {d d' : D} (hd : argFlat d = some d') {v : Value} (h : RepD β own w d v) :
    Rep1 β2 (fun _ => True) w d' v := by
  cases d with
  | tup l => simp [argFlat] at hd
  | s x =>
    simp only [argFlat, Option.map_eq_some_iff] at hd
    obtain ⟨y, h1, rfl⟩ := hd
    exact RepS.lend h2 hi h1 h
  | agg l =>
    simp only [argFlat, Option.map_eq_some_iff] at hd
    obtain ⟨r, h1, rfl⟩ := hd
    obtain ⟨cs, e1, e2⟩ := h
    exact ⟨cs, e1, RepL.lend h2 hi h1 e2⟩

theorem plain_lend {x : SC} (h : x.plain = true) : x.lend = some x := by cases x <;> simp [SC.plain] at h <;> rfl
theorem plain_lendL : ∀ {l : List SC}, l.all SC.plain = true → lendL l = some l
  | [], _ => rfl
  | x :: l, h => by
    simp only [List.all_cons, Bool.and_eq_true] at h
    simp only [lendL, plain_lend h.1, plain_lendL h.2]
end
end Go.Adit

namespace Go.Adit
open Go.RowKit

/-- the operation's run yields a value (or nothing: then undef) of which this holds -/
def Does (P : Program) (o : Oper) (a : Act) (w : World) (R : Value → World → Prop) : Prop :=
  ∀ (K : Act → World → Prop) (Q : Exit → Act → World → Prop), (∀ v w', R v w' → K (a.put o.dst v) w') → o.wp P a w K Q

theorem Does.run {P : Program} {o : Oper} {a : Act} {w w' : World} {R : Value → World → Prop} {v : Value} (h : (execOp a.eval o).run P w = .ok (.value v) w') (hr : R v w') : Does P o a w R := by
  intro K Q hK
  unfold Oper.wp
  rw [h]
  exact hK v w' hr

theorem Does.skip {P : Program} {o : Oper} {a : Act} {w w' : World} {R : Value → World → Prop} (h : (execOp a.eval o).run P w = .ok .skip w') (hr : R undef w') : Does P o a w R := by
  intro K Q hK
  unfold Oper.wp
  rw [h]
  exact hK _ w' hr

section
variable {P : Program} {w0 : Base} {N : Nat} {s : St} {β : Nat → Option Nat} {a : Act} {w : World} {c : Cfg} {z : Zs} {own : Nat → Prop}

theorem RepS.kill {n : Nat} {x : SC} {v : Value} (h : RepS β own w x v) : RepS β own w (x.kill n) v := by
  unfold SC.kill
  split
  · exact ⟨h.notAgg, h.one⟩
  · exact h
theorem RepL.kill {n : Nat} : ∀ {l : List SC} {vs : List Value}, RepL β own w l vs → RepL β own w (l.map (SC.kill n)) vs
  | [], [], _ => trivial
  | _ :: _, _ :: _, ⟨h1, h2⟩ => ⟨h1.kill, RepL.kill h2⟩
  | [], _ :: _, h => h.elim
  | _ :: _, [], h => h.elim
theorem flat_kill {n : Nat} {x : SC} (h : x.flat = true) : (x.kill n).flat = true := by
  unfold SC.kill
  split
  · rfl
  · exact h
theorem flats_kill {n : Nat} {l : List SC} (h : flats l = true) : flats (l.map (SC.kill n)) = true := by
  simp only [flats, List.all_map, List.all_eq_true] at h ⊢
  exact fun x hx => flat_kill (h x hx)
theorem killS_t {n u : Nat} {d : D} : (killS n s).t u = some d ↔ s.t u = some d ∧ d.hasG n = false := by
  simp only [killS]
  cases h : s.t u with
  | none => simp
  | some d' =>
    simp only
    cases h2 : d'.hasG n with
    | true => simp only; constructor
              · intro h; cases h
              · rintro ⟨h, h'⟩; simp only [Option.some.injEq] at h; subst h; rw [h2] at h'; cases h'
    | false => simp only; constructor
               · intro h; simp only [Option.some.injEq] at h; subst h; exact ⟨rfl, h2⟩
               · exact fun h => h.1
theorem killS_m {n u : Nat} : (killS n s).m u = (s.m u).map fun b => ⟨b.cells.map (SC.kill n), b.ty⟩ := by
  simp only [killS]
  cases h : s.m u <;> rfl
theorem Rel.killS (h : Rel w0 N s β a w) (n : Nat) : Rel w0 N (killS n s) β a w where
  sz := h.sz
  tm t d hd := h.tm t d (killS_t.1 hd).1
  mem m bk hm := by
    rw [killS_m, Option.map_eq_some_iff] at hm
    obtain ⟨b0, h1, rfl⟩ := hm
    obtain ⟨b, cs, ty, e1, e2, e3, e4⟩ := h.mem m b0 h1
    exact ⟨b, cs, ty, e1, e2, e3.kill, flats_kill e4⟩
  dom m hh hm := by
    rw [killS_m, Option.map_eq_none_iff] at hm
    exact h.dom m hh hm
  nhid m hm := by rw [killS_m, h.nhid m hm]; rfl
  inj := h.inj
  new := h.new
  bel := h.bel
  dfr := h.dfr
  lnt := h.lnt
theorem Rel.killO (h : Rel w0 N s β a w) (o : Oper) (v : D) : Rel w0 N (killO o v s) β a w := by
  unfold Adit.killO
  split
  · exact h.killS _
  · exact h

/-- what is to be shown of an operation -/
def Sound (P : Program) (w0 : Base) (N : Nat) (s : St) (a : Act) (w : World) (o : Oper) (e : Eff) : Prop :=
  ∀ s1, putB o s e.blk = some s1 → Does P o a w fun v w' => ∃ β', Rel w0 N (killO o e.val s1) β' a w' ∧ RepD β' (fun b => w0.heap.size ≤ b) w' e.val v

theorem Sound.pure (hR : Rel w0 N s β a w) {o : Oper} {d : D} {l : List Bool} {v : Value} (h : (execOp a.eval o).run P w = .ok (.value v) w) (hv : RepD β (fun b => w0.heap.size ≤ b) w d v) :
    Sound P w0 N s a w o ⟨d, none, l⟩ := by
  intro s1 h1
  simp only [putB, Option.some.injEq] at h1
  subst h1
  exact Does.run h ⟨β, hR.killO o _, hv⟩

/-- a value that has been read out -/
theorem Sound.bindPure (hR : Rel w0 N s β a w) {o : Oper} {x : Option D} {e : Eff} (he : x.bind pureV = some e)
    (h : ∀ d, x = some d → ∃ v, (execOp a.eval o).run P w = .ok (.value v) w ∧ RepD β (fun b => w0.heap.size ≤ b) w d v) : Sound P w0 N s a w o e := by
  cases x with
  | none => simp at he
  | some d =>
    simp only [Option.bind_some, pureV, Option.some.injEq] at he
    subst he
    obtain ⟨v, h1, h2⟩ := h d rfl
    exact Sound.pure hR h1 h2

theorem sound_move (hR : Rel w0 N s β a w) {o : Oper} {x : Operand} (ho : o.op = .move x ∨ o.op = .assign x) {e : Eff} (he : (ev s x).bind pureV = some e) : Sound P w0 N s a w o e :=
  Sound.bindPure hR he fun d hd => ⟨a.eval x, by rcases ho with ho | ho <;> simp [execOp, ho], ev_rep hR hd⟩

theorem sound_pick (hR : Rel w0 N s β a w) {o : Oper} {k x y : Operand} (ho : o.op = .pick k x y) {b : Bool} (hk : ev s k = some (.s (.bool (.lit b)))) {e : Eff}
    (he : (ev s (if b then x else y)).bind pureV = some e) : Sound P w0 N s a w o e :=
  Sound.bindPure hR he fun d hd => ⟨a.eval (if b then x else y), by
    have h1 : a.eval k = .bool b := ev_rep hR hk
    cases b <;> simp [execOp, ho, h1, asBool], ev_rep hR hd⟩

theorem run_zeroValue {t : TypeId} {i : TypeInfo} {v : Value} (h1 : P.info? t = some i) (h2 : i.zero = some v) : (zeroValue t).run P w = .ok v w := by
  simp [zeroValue, typeInfo, h1, h2]

theorem putB_new {o : Oper} (ho : isWr o.op = false) {d : Nat} {b : Blk} : putB o s (some (d, b)) = match s.m d, Nat.ble hidBase d with
    | none, false => some { s with m := updM s.m d b }
    | _, _ => none := by
  simp only [putB, ho]

theorem Sound.new (hR : Rel w0 N s β a w) {o : Oper} {d : Nat} (ho : isWr o.op = false) {blk : Blk} {l : List Bool} {x : D} {cs : List Value} {ty : TypeId} {v : Value}
    (hc : RepL β (fun b => w0.heap.size ≤ b) w blk.cells cs) (hf : flats blk.cells = true)
    (h : (execOp a.eval o).run P w = .ok (.value v) (w.alloc (.cells ⟨cs⟩ ty)))
    (hv : ∀ β', β' d = some w.heap.size → RepD β' (fun b => w0.heap.size ≤ b) (w.alloc (.cells ⟨cs⟩ ty)) x v) : Sound P w0 N s a w o ⟨x, some (d, blk), l⟩ := by
  intro s1 h1
  have h2 : s.m d = none ∧ ¬ hidBase ≤ d ∧ s1 = { s with m := updM s.m d blk } := by
    rw [putB_new ho] at h1
    split at h1
    · rename_i hm hn
      simp only [Option.some.injEq] at h1
      exact ⟨hm, fun e => (by rw [Nat.ble_eq_true_of_le e] at hn; cases hn), h1.symm⟩
    · cases h1
  obtain ⟨h3, h4, rfl⟩ := h2
  exact Does.run h ⟨_, (hR.alloc h4 h3 hc hf).killO o _, hv _ (by simp [updB])⟩

theorem zero_rep (E : Env P c z) {t : TypeId} {l : List SC} (h : zeroCells c z.ext z.strs z.ints z.nilv 20 t = some l) (β : Nat → Option Nat) (own : Nat → Prop) (w : World) :
    ∃ i v, P.info? t = some i ∧ i.zero = some v ∧ RepL β own w l v.cells.toList ∧ flats l = true := by
  obtain ⟨i, v, h1, h2, h3, h4⟩ := E.zero t l h
  exact ⟨i, v, h1, h2, h3 β own w, h4⟩

theorem sound_alloc (E : Env P c z) (hR : Rel w0 N s β a w) {o : Oper} {t : TypeId} (ho : o.op = .alloc t) {d : Nat} {l : List SC} (hz : zeroCells c z.ext z.strs z.ints z.nilv 20 t = some l) :
    Sound P w0 N s a w o ⟨.s (.ptr d 0), some (d, ⟨l, t⟩), []⟩ := by
  obtain ⟨i, v, h1, h2, h3, h4⟩ := zero_rep E hz β (fun b => w0.heap.size ≤ b) w
  refine Sound.new hR (by rw [ho]; rfl) (ty := t) h3 h4 (v := .pointer (some ⟨w.heap.size, 0, none⟩)) ?_ ?_
  · simp [execOp, ho, Instr.alloc, run_zeroValue h1 h2, newVar, newRow]
  · intro β' hb; exact ⟨_, hb, rfl⟩

theorem cellsOf_rep {d : D} {v : Value} {l : List SC} (h : RepD β own w d v) (hc : cellsOf d = some l) : RepL β own w l v.cells.toList := by
  cases d with
  | s x => simp only [cellsOf, Option.some.injEq] at hc; subst hc; rw [RepS.notAgg h]; exact ⟨h, trivial⟩
  | agg l' => simp only [cellsOf, Option.some.injEq] at hc; subst hc; obtain ⟨cs, rfl, h2⟩ := h; exact h2
  | tup l' => simp [cellsOf] at hc

theorem sound_box (hR : Rel w0 N s β a w) {o : Oper} {t : TypeId} {x : Operand} (ho : o.op = .box t x) {d : Nat} {l : List SC} (hl : (ev s x).bind cellsOf = some l) (hf : l.all SC.flat = true) :
    Sound P w0 N s a w o ⟨.s (.ptr d 0), some (d, ⟨l, t⟩), []⟩ := by
  cases hx : ev s x with
  | none => simp [hx] at hl
  | some y =>
    simp only [hx, Option.bind_some] at hl
    have h1 := cellsOf_rep (ev_rep hR hx) hl
    refine Sound.new hR (by rw [ho]; rfl) (ty := t) h1 hf (v := .pointer (some ⟨w.heap.size, 0, none⟩)) ?_ ?_
    · simp [execOp, ho, Instr.box, newVar, newRow]
    · intro β' hb; exact ⟨_, hb, rfl⟩
end
end Go.Adit

namespace Go.Adit
open Go.RowKit

theorem lbLe_iff (a b : Int) : lbLe a b = true ↔ a ≤ b := by simp [lbLe]
theorem lbLt_iff (a b : Int) : lbLt a b = true ↔ a < b := by simp [lbLt]

theorem IV.li_sym (x : Int) : (IV.sym x).li = x := rfl

theorem inR_wrap (k : IntKind) (n : Int) : inR k (k.wrap n) := by
  cases k <;> simp only [inR, IntKind.wrap, IntKind.min, IntKind.max, IntKind.signed, IntKind.bits] <;> simp <;> (try split) <;> omega

theorem inR_zero_between {k : IntKind} {x y : Int} (hx : inR k x) (h : (0 ≤ y ∧ y ≤ x) ∨ (x ≤ y ∧ y ≤ 0)) : inR k y := by
  cases k <;> simp only [inR, IntKind.min, IntKind.max, IntKind.signed, IntKind.bits] at hx ⊢ <;> simp at hx ⊢ <;> omega

theorem inR_tmod {k : IntKind} {x : Int} (y : Int) (hx : inR k x) : inR k (x.tmod y) := by
  refine inR_zero_between hx ?_
  have h2 : ((x.tmod y).natAbs) ≤ x.natAbs := by rw [Int.natAbs_tmod]; exact Nat.mod_le _ _
  by_cases h : 0 ≤ x
  · have h1 : 0 ≤ x.tmod y := Int.tmod_nonneg y h
    omega
  · have h1 : 0 ≤ (-x).tmod y := Int.tmod_nonneg y (by omega)
    rw [Int.neg_tmod] at h1
    omega

theorem inR_fdiv {k : IntKind} {x : Int} (n : Nat) (hx : inR k x) : inR k (x.fdiv (2 ^ n)) := by
  have hp : (1 : Int) ≤ 2 ^ n := by
    have : (0 : Int) < 2 ^ n := Int.pow_pos (by omega)
    omega
  refine inR_zero_between hx ?_
  rw [Int.fdiv_eq_ediv_of_nonneg x (by omega)]
  by_cases h : 0 ≤ x
  · exact .inl ⟨Int.ediv_nonneg h (by omega), Int.ediv_le_self _ h⟩
  · refine .inr ⟨?_, ?_⟩
    · rw [Int.le_ediv_iff_mul_le (by omega)]
      have : x * (2 ^ n) ≤ x * 1 := Int.mul_le_mul_of_nonpos_left (by omega) hp
      omega
    · have : x / 2 ^ n ≤ 0 / 2 ^ n := Int.ediv_le_ediv (by omega) (by omega)
      simpa using this

section
variable {P : Program} {w : World}

theorem isShift_of {op : BinOp} (h : isShift op = true) : op = .shl ∨ op = .shr := by cases op <;> simp_all [isShift]

theorem run_arith {op : BinOp} {k k' : IntKind} {m n r : IV} {req : List Bool} {t : TypeId} (ha : arith op k m n = some (r, req)) (hq : ∀ b ∈ req, b = true) (hm : inR k m.li)
    (hk : isShift op = true ∨ k = k') : (binOp op t (.int k m.li) (.int k' n.li)).run P w = .ok (.int k r.li) w ∧ inR k r.li := by
  have key : ∀ (f : Option (IV × List Bool)), f = arithSym op k m n → (f.map fun r => (r.1, arithReq op n r.2)) = some (r, req) →
      (binOp op t (.int k m.li) (.int k' n.li)).run P w = .ok (.int k r.li) w ∧ inR k r.li := by
    intro f hf h
    subst hf
    cases op <;> simp [arithSym] at h <;> obtain ⟨rfl, rfl⟩ := h <;> simp [isShift] at hk <;> try subst hk
    case add | sub | mul | and | or | xor | andNot => exact ⟨by simp [binOp, Op.intArith, Op.intBits, IV.li_sym, liAdd, liSub, liMul, liAnd, liOr, liXor, liAndNot], inR_wrap _ _⟩
    case quo =>
      have h0 : n.li ≠ 0 := by
        cases n with
        | lit y =>
          by_cases e : y = 0
          · subst e; have := hq (lbNot (lbEqI (IV.lit 0).li (liLit 0))) (by simp [arithReq]); simp [lbNot, lbEqI, IV.li, liLit] at this
          · simpa [IV.li, liLit] using e
        | sym y => have := hq (lbNot (lbEqI y (liLit 0))) (by simp [arithReq, IV.li]); simpa [lbNot, lbEqI, IV.li, liLit] using this
      exact ⟨by simp [binOp, Op.intDiv, h0, IV.li_sym, liQuo], inR_wrap _ _⟩
    case rem =>
      have h0 : n.li ≠ 0 := by
        cases n with
        | lit y =>
          by_cases e : y = 0
          · subst e; have := hq (lbNot (lbEqI (IV.lit 0).li (liLit 0))) (by simp [arithReq]); simp [lbNot, lbEqI, IV.li, liLit] at this
          · simpa [IV.li, liLit] using e
        | sym y => have := hq (lbNot (lbEqI y (liLit 0))) (by simp [arithReq, IV.li]); simpa [lbNot, lbEqI, IV.li, liLit] using this
      exact ⟨by simp [binOp, Op.intDiv, h0, IV.li_sym, liRem], inR_tmod _ hm⟩
    case shl =>
      have h0 : ¬ n.li < 0 := by
        cases n with
        | lit y =>
          by_cases e : y < 0
          · have h1 : (0 : Int) ≤ y := (lbLe_iff _ _).1 (hq (lbLe (liLit 0) (IV.lit y).li) (by simp [arithReq, e])); omega
          · simpa [IV.li, liLit] using e
        | sym y => have h1 : (0 : Int) ≤ y := (lbLe_iff _ _).1 (hq (lbLe (liLit 0) y) (by simp [arithReq, IV.li])); simp only [IV.li]; exact fun h2 => absurd h1 (Int.not_le.2 h2)
      exact ⟨by simp [binOp, Op.shift, h0, IV.li_sym, liShl], inR_wrap _ _⟩
    case shr =>
      have h0 : ¬ n.li < 0 := by
        cases n with
        | lit y =>
          by_cases e : y < 0
          · have h1 : (0 : Int) ≤ y := (lbLe_iff _ _).1 (hq (lbLe (liLit 0) (IV.lit y).li) (by simp [arithReq, e])); omega
          · simpa [IV.li, liLit] using e
        | sym y => have h1 : (0 : Int) ≤ y := (lbLe_iff _ _).1 (hq (lbLe (liLit 0) y) (by simp [arithReq, IV.li])); simp only [IV.li]; exact fun h2 => absurd h1 (Int.not_le.2 h2)
      exact ⟨by simp [binOp, Op.shift, h0, IV.li_sym, liShr], inR_fdiv _ hm⟩
  unfold arith at ha
  split at ha
  · rename_i x y
    split at ha
    · rename_i v hv
      simp only [Option.some.injEq, Prod.mk.injEq] at ha
      obtain ⟨rfl, rfl⟩ := ha
      simp only [IV.li, liLit] at hm ⊢
      cases op <;> simp [arithLit] at hv <;> simp [isShift] at hk <;> try subst hk
      case add | sub | mul => subst hv; exact ⟨by simp [binOp, Op.intArith], inR_wrap _ _⟩
      case quo => obtain ⟨h0, rfl⟩ := hv; exact ⟨by simp [binOp, Op.intDiv, h0], inR_wrap _ _⟩
      case rem => obtain ⟨h0, rfl⟩ := hv; exact ⟨by simp [binOp, Op.intDiv, h0], inR_tmod _ hm⟩
      case shl => obtain ⟨h0, rfl⟩ := hv; exact ⟨by simp [binOp, Op.shift, show ¬ y < 0 by omega], inR_wrap _ _⟩
      case shr => obtain ⟨h0, rfl⟩ := hv; exact ⟨by simp [binOp, Op.shift, show ¬ y < 0 by omega], inR_fdiv _ hm⟩
    · exact key _ rfl ha
  · exact key _ rfl ha

theorem run_cmp {op : BinOp} {k : IntKind} {m n : IV} {t : TypeId} (h : isCmp op = true) :
    (binOp op t (.int k m.li) (.int k n.li)).run P w = .ok (.bool (cmpI op m n).lb) w := by
  have key : (BV.sym (cmpSym op m.li n.li)).lb = (cmpI op m n).lb := by
    cases m <;> cases n <;> rfl
  rw [← key]
  cases op <;> simp [isCmp] at h <;> simp [binOp, Op.intCmp, cmpSym, BV.lb, lbEqI, lbNot, lbLt, lbLe, bne]

theorem bvEq_lb (a b : BV) : (bvEq a b).lb = (a.lb == b.lb) := by cases a <;> cases b <;> rfl
theorem bvNot_lb (a : BV) : (bvNot a).lb = !a.lb := by cases a <;> rfl
theorem bvAnd_lb (a b : BV) : (bvAnd a b).lb = (a.lb && b.lb) := by
  cases a with
  | lit x => cases x <;> simp [bvAnd, BV.lb, lbLit]
  | sym x => cases b with
    | lit y => cases y <;> simp [bvAnd, BV.lb, lbLit, lbAnd]
    | sym y => rfl
end
end Go.Adit

namespace Go.Adit
open Go.RowKit

section
variable {P : Program} {w0 : Base} {N : Nat} {s : St} {β : Nat → Option Nat} {a : Act} {w : World} {c : Cfg} {z : Zs} {own : Nat → Prop}

theorem Sound.pureS (hR : Rel w0 N s β a w) {o : Oper} {x : SC} {e : Eff} {v : Value} (he : pureS x = some e) (h : (execOp a.eval o).run P w = .ok (.value v) w)
    (hv : RepS β (fun b => w0.heap.size ≤ b) w x v) : Sound P w0 N s a w o e := by
  simp only [Go.Adit.pureS, Option.some.injEq] at he
  subst he
  exact Sound.pure hR h hv

theorem eqGuard_scalar {op : BinOp} {t : TypeId} {x y : Operand} {u v : Value} {p q : SC} (h : RepS β own w p u) (_h' : RepS β own w q v) (hj : p ≠ .junk := by intro h; cases h) :
    (eqGuard op t x y u v).run P w = .ok () w := by
  cases p <;> simp only [RepS] at h
  case bool | fn | nilp | byte => subst h; cases op <;> rfl
  case int | str => obtain ⟨rfl, _⟩ := h; cases op <;> rfl
  case exts | strs | ints => obtain ⟨a, cap, rfl, _⟩ := h; cases op <;> rfl
  case ptr => obtain ⟨b, _, rfl⟩ := h; cases op <;> rfl
  case lsl => obtain ⟨b, _, rfl, _⟩ := h; cases op <;> rfl
  case eptr | sptr | iptr => obtain ⟨b, o, rfl, _⟩ := h; cases op <;> rfl
  case nils => subst h; cases op <;> rfl
  case junk => exact absurd rfl hj
  case gs => rcases h.2.2.1.2 with ⟨rfl, _⟩ | ⟨g, cap, cur, rfl, _⟩ <;> cases op <;> rfl
  case gv | own => obtain ⟨_, _, a, cap, rfl, _⟩ := h; cases op <;> rfl

theorem exec_binop {o : Oper} {op : BinOp} {t t' : TypeId} {x y : Operand} (ho : o.op = .binOp op t x y t') {r : Value}
    (hg : (eqGuard op t x y (a.eval x) (a.eval y)).run P w = .ok () w) (h : (binOp op t (a.eval x) (a.eval y)).run P w = .ok r w) :
    (execOp a.eval o).run P w = .ok (.value r) w := by
  simp [execOp, ho, hg, h]

theorem bvIf_lb (e : Bool) (v : BV) : (bvIf e v).lb = if e then v.lb else !v.lb := by cases e <;> simp [bvIf, bvNot_lb]

theorem sound_binopI (hR : Rel w0 N s β a w) {o : Oper} {op : BinOp} {t t' : TypeId} {x y : Operand} (ho : o.op = .binOp op t x y t') {k k' : IntKind} {m n : IV}
    (hx : a.eval x = .int k m.li) (hm : inR k m.li) (hy : a.eval y = .int k' n.li) (hg : (eqGuard op t x y (a.eval x) (a.eval y)).run P w = .ok () w) {e : Eff}
    (he : binopI op k k' m n = some e) (hq : ∀ b ∈ e.req, b = true) : Sound P w0 N s a w o e := by
  unfold binopI at he
  split at he
  · rename_i h1
    simp only [Option.bind_eq_some_iff, Option.some.injEq] at he
    obtain ⟨r, h2, rfl⟩ := he
    obtain ⟨g1, g2⟩ := run_arith (P := P) (w := w) (t := t) (k' := k') (r := r.1) (req := r.2) h2 hq hm (.inl h1)
    exact Sound.pure hR (exec_binop ho hg (by rw [hx, hy]; exact g1)) ⟨rfl, g2⟩
  · rename_i h1 h2 h3
    obtain rfl : k = k' := of_decide_eq_true h2
    exact Sound.pureS hR he (exec_binop ho hg (by rw [hx, hy]; exact run_cmp h3)) rfl
  · rename_i h1 h2 h3
    simp only [Option.bind_eq_some_iff, Option.some.injEq] at he
    obtain ⟨r, h4, rfl⟩ := he
    obtain ⟨g1, g2⟩ := run_arith (P := P) (w := w) (t := t) (k' := k') (r := r.1) (req := r.2) h4 hq hm (.inr (of_decide_eq_true h2))
    exact Sound.pure hR (exec_binop ho hg (by rw [hx, hy]; exact g1)) ⟨rfl, g2⟩
  · cases he

theorem isEq_of {op : BinOp} {e : Bool} (h : isEq op = some e) : (op = .eql ∧ e = true) ∨ (op = .neq ∧ e = false) := by
  cases op <;> simp [isEq] at h <;> simp [h]

theorem list_beq_toArray (l r : List UInt8) : ((ByteArray.mk ⟨l⟩).toList == (ByteArray.mk ⟨r⟩).toList) = (l == r) := by
  have h : ∀ l : List UInt8, (ByteArray.mk ⟨l⟩).toList = l := fun l => ByteArray.toList_mk l
  rw [h, h]

theorem sound_binop (E : Env P c z) (hR : Rel w0 N s β a w) {o : Oper} {op : BinOp} {t t' : TypeId} {x y : Operand} (ho : o.op = .binOp op t x y t') {dx dy : D}
    (hx : ev s x = some dx) (hy : ev s y = some dy) {e : Eff} (he : binop c z t op dx dy = some e) (hq : ∀ b ∈ e.req, b = true) : Sound P w0 N s a w o e := by
  have rx := ev_rep hR hx
  have ry := ev_rep hR hy
  unfold binop at he
  split at he
  · -- structs, arrays
    rename_i p q
    obtain ⟨cs, ex, rp⟩ := rx
    obtain ⟨ds, ey, rq⟩ := ry
    split at he
    · rename_i e1 l h1 h2 h3
      split at he
      · rename_i h4
        simp only [Bool.and_eq_true] at h4
        simp only [Option.bind_eq_some_iff] at he
        obtain ⟨v, hv, he⟩ := he
        obtain ⟨g1, g2⟩ := E.eq t l h2 h3 p q v h4.1 h4.2 hv β _ w cs ds rp rq
        have hg : (eqGuard op t x y (a.eval x) (a.eval y)).run P w = .ok () w := by rw [ex, ey]; exact g1 _ _ _
        rcases isEq_of h1 with ⟨rfl, rfl⟩ | ⟨rfl, rfl⟩
        · exact Sound.pureS hR he (exec_binop (r := .bool v.lb) ho hg (by rw [ex, ey]; simp [binOp, g2])) rfl
        · exact Sound.pureS hR he (exec_binop (r := .bool (!v.lb)) ho hg (by rw [ex, ey]; simp [binOp, g2])) (by simp [RepS, bvIf, bvNot_lb])
      · cases he
    · cases he
  · -- strings
    rename_i p q
    have hg := eqGuard_scalar (P := P) (op := op) (t := t) (x := x) (y := y) (β := β) (own := fun b => w0.heap.size ≤ b) (w := w) (p := .str p) (q := .str q) rx ry
    obtain ⟨ex, rp⟩ := rx
    obtain ⟨ey, rq⟩ := ry
    split at he
    · simp only [Option.some.injEq] at he
      subst he
      have h1 : ((p.length : Int) + q.length) ≤ imax := by
        have := hq _ (List.mem_singleton.2 rfl)
        simpa [lbRoom, imax] using this
      refine Sound.pure hR (v := .string ⟨⟨p ++ q⟩⟩) (exec_binop ho hg ?_) ⟨rfl, by simp only [lsCat, List.length_append]; unfold imax at h1 ⊢; omega⟩
      rw [ex, ey]
      have h2 : (ByteArray.mk ⟨p⟩ ++ ByteArray.mk ⟨q⟩ : ByteArray) = ⟨⟨p ++ q⟩⟩ := by
        apply ByteArray.ext
        simp [ByteArray.data_append]
      have h3 : ¬ (((ByteArray.mk ⟨p⟩).size + (ByteArray.mk ⟨q⟩).size : Nat) : Int) > IntKind.i64.max := by
        have e1 : (ByteArray.mk ⟨p⟩).size = p.length := rfl
        have e2 : (ByteArray.mk ⟨q⟩).size = q.length := rfl
        rw [e1, e2]
        simp only [IntKind.max, IntKind.signed, IntKind.bits]
        unfold imax at h1
        simp
        omega
      simp only [binOp, Op.stringOp, h3, if_false, h2]
      rfl
    · rename_i hne
      split at he
      · rename_i e1 h1
        rcases isEq_of h1 with ⟨rfl, rfl⟩ | ⟨rfl, rfl⟩
        · exact Sound.pureS hR he (exec_binop (r := .bool (p == q)) ho hg (by rw [ex, ey]; simp only [binOp, Op.stringOp, list_beq_toArray]; rfl)) rfl
        · exact Sound.pureS hR he (exec_binop (r := .bool (!(p == q))) ho hg (by rw [ex, ey]; simp only [binOp, Op.stringOp, list_beq_toArray]; rfl)) rfl
      · cases he
  · -- bools
    rename_i p q
    have hg := eqGuard_scalar (P := P) (op := op) (t := t) (x := x) (y := y) (β := β) (own := fun b => w0.heap.size ≤ b) (w := w) (p := .bool p) (q := .bool q) rx ry
    have ex : a.eval x = .bool p.lb := rx
    have ey : a.eval y = .bool q.lb := ry
    split at he
    · rename_i e1 h1 h2
      have hty := E.ty t
      rw [h2] at hty
      rcases isEq_of h1 with ⟨rfl, rfl⟩ | ⟨rfl, rfl⟩
      · exact Sound.pureS hR he (exec_binop ho hg (by rw [ex, ey]; exact run_eql_bool w t _ _ hty.1)) (by simp [RepS, bvIf_lb, bvEq_lb])
      · exact Sound.pureS hR he (exec_binop ho hg (by rw [ex, ey]; exact run_neq_bool w t _ _ hty.1)) (by simp [RepS, bvIf_lb, bvEq_lb])
    · cases he
  · -- a pointer and nil
    have hg := eqGuard_scalar (P := P) (op := op) (t := t) (x := x) (y := y) (β := β) (own := fun b => w0.heap.size ≤ b) (w := w) (p := .ptr _ _) (q := .nilp) rx ry
    obtain ⟨b, hb, ex⟩ := rx
    have ey : a.eval y = .pointer none := ry
    split at he
    · rename_i e1 k1 h1 h2
      have hty := E.ty t
      rw [h2] at hty
      rcases isEq_of h1 with ⟨rfl, rfl⟩ | ⟨rfl, rfl⟩
      · exact Sound.pureS hR he (exec_binop (r := .bool false) ho hg (by rw [ex, ey, run_eql_pointer_nil w t _ (by simp [Program.pointee, hty.1])]; rfl)) rfl
      · exact Sound.pureS hR he (exec_binop (r := .bool true) ho hg (by rw [ex, ey, run_neq_pointer_nil w t _ (by simp [Program.pointee, hty.1])]; rfl)) rfl
    · cases he
  · -- integers
    rename_i p q _ _ _
    split at he
    · rename_i k m k' n h1 h2
      have hg := eqGuard_scalar (P := P) (op := op) (t := t) (x := x) (y := y) (β := β) (own := fun b => w0.heap.size ≤ b) (w := w) (p := p) (q := q) rx ry (by intro e; subst e; simp [asI] at h1)
      obtain ⟨g1, g2⟩ := asI_rep rx h1
      obtain ⟨g3, g4⟩ := asI_rep ry h2
      exact sound_binopI hR ho g1 g2 g3 hg he hq
    · cases he
  · cases he
end
end Go.Adit

namespace Go.Adit
open Go.RowKit

section
variable {P : Program} {w0 : Base} {N : Nat} {s : St} {β : Nat → Option Nat} {a : Act} {w : World} {c : Cfg} {z : Zs} {own : Nat → Prop}

theorem sound_not (hR : Rel w0 N s β a w) {o : Oper} {t : TypeId} {x : Operand} (ho : o.op = .unOp .not t x) {b : BV} (hx : ev s x = some (.s (.bool b))) {e : Eff}
    (he : pureS (.bool (bvNot b)) = some e) : Sound P w0 N s a w o e := by
  have rx : a.eval x = .bool b.lb := ev_rep hR hx
  exact Sound.pureS hR he (v := .bool (!b.lb)) (by simp [execOp, ho, rx, Op.unary]) (by simp [RepS, bvNot_lb])

theorem sound_neg (hR : Rel w0 N s β a w) {o : Oper} {t : TypeId} {x : Operand} (ho : o.op = .unOp .neg t x) {k : IntKind} {n : IV} (hx : ev s x = some (.s (.int k n))) {e : Eff}
    (he : pureS (.int k (negIV k n)) = some e) : Sound P w0 N s a w o e := by
  have rx : a.eval x = .int k n.li := (ev_rep hR hx).1
  refine Sound.pureS hR he (v := .int k (k.wrap (0 - n.li))) (by simp [execOp, ho, rx, Op.unary, Op.intArith]) ?_
  cases n with
  | lit m => exact ⟨rfl, inR_wrap _ _⟩
  | sym m => exact ⟨rfl, inR_wrap _ _⟩

theorem sound_convI (E : Env P c z) (hR : Rel w0 N s β a w) {o : Oper} {src dst : TypeId} {x : Operand} (ho : o.op = .convert src dst x) {k0 k : IntKind} (h1 : c.ty src = .int k0) (h2 : c.ty dst = .int k)
    {y : SC} (hx : ev s x = some (.s y)) {e : Eff}
    (he : ((asI y).bind fun r => pureS (.int k (match r.2 with | .lit n => .lit (k.wrap n) | .sym n => .sym (liConv k n)))) = some e) : Sound P w0 N s a w o e := by
  simp only [Option.bind_eq_some_iff] at he
  obtain ⟨⟨k1, n⟩, hy, he⟩ := he
  obtain ⟨g1, g2⟩ := asI_rep (ev_rep hR hx) hy
  have e1 := E.ty src; rw [h1] at e1
  have e2 := E.ty dst; rw [h2] at e2
  refine Sound.pureS hR he (v := .int k (k.wrap n.li)) (by simp [execOp, ho, g1, convert, run_underlying e1.1, run_underlying e2.1, Conv.intToInt]) ?_
  cases n with
  | lit m => exact ⟨rfl, inR_wrap _ _⟩
  | sym m => exact ⟨rfl, inR_wrap _ _⟩

theorem nthF_get : ∀ {fs : List (Nat × Nat)} {i : Nat} {p : Nat × Nat}, nthF fs i = some p → fs[i]? = some p
  | [], _, _, h => by simp [nthF] at h
  | x :: _, 0, p, h => by simpa [nthF] using h
  | _ :: l, n + 1, p, h => by simpa [nthF] using nthF_get (fs := l) (i := n) h

theorem field_of (E : Env P c z) {t : TypeId} {fs : List (Nat × Nat)} {m : Nat} (h : c.ty t = .struct fs m) {i : Nat} {p : Nat × Nat} (hp : nthF fs i = some p) :
    ∃ Fs F, P.underlying t = some (.struct Fs) ∧ Fs[i]? = some F ∧ F.offset = p.1 ∧ F.type = p.2 := by
  have e1 := E.ty t; rw [h] at e1
  obtain ⟨Fs, h1, h2, _⟩ := e1
  have h3 := nthF_get hp
  rw [← h2] at h3
  simp only [List.getElem?_map, Option.map_eq_some_iff] at h3
  obtain ⟨F, h4, h5⟩ := h3
  exact ⟨Fs, F, h1, by simpa using h4, by rw [← h5], by rw [← h5]⟩

theorem size_of (E : Env P c z) {t : TypeId} (h : (c.ty t).known = true) : ∃ i, P.info? t = some i ∧ i.size = (c.ty t).size := by
  have e1 := E.ty t
  cases h2 : c.ty t <;> rw [h2] at e1 h <;> simp only [TyOK] at e1 <;> simp only [Ty.size] <;> try (simp [Ty.known] at h; done)
  case struct => obtain ⟨_, _, _, e1⟩ := e1; simpa [Option.map_eq_some_iff] using e1
  all_goals simpa [Option.map_eq_some_iff] using e1.2

theorem run_sizeOf (E : Env P c z) {t : TypeId} (h : (c.ty t).known = true) : (sizeOf t).run P w = .ok (c.ty t).size w := by
  obtain ⟨i, h1, h2⟩ := size_of E h
  simp [sizeOf, typeInfo, h1, h2]

theorem run_isAgg (E : Env P c z) {t : TypeId} (h : (c.ty t).known = true) : (isAgg t).run P w = .ok (c.ty t).isAgg w := by
  have e1 := E.ty t
  unfold isAgg
  cases h2 : c.ty t <;> rw [h2] at e1 h <;> simp only [TyOK] at e1 <;> try (simp [Ty.known] at h; done)
  case struct => obtain ⟨_, e1, _⟩ := e1; simp [run_underlying e1, Ty.isAgg]
  all_goals simp [run_underlying e1.1, Ty.isAgg]

theorem addr_add (b o n : Nat) : (⟨b, o, none⟩ : Go.Addr).add n = ⟨b, o + n, none⟩ := by
  unfold Addr.add; split <;> simp_all

theorem run_fieldPlace (E : Env P c z) {F : Field} (h : (c.ty F.type).known = true) (h0 : (c.ty F.type).size ≠ 0) (b o : Nat) :
    (fieldPlace ⟨b, o, none⟩ F).run P w = .ok ⟨b, o + F.offset, none⟩ w := by
  simp [fieldPlace, run_sizeOf E h, h0, addr_add]

theorem exec_fieldAddr (E : Env P c z) {o : Oper} {t : TypeId} {x : Operand} {f : Nat} (ho : o.op = .fieldAddr t x f) {fs : List (Nat × Nat)} {m : Nat} (h : c.ty t = .struct fs m)
    {p : Nat × Nat} (hp : nthF fs f = some p) (hk : (c.ty p.2).known = true) (h0 : (c.ty p.2).size ≠ 0) {b off : Nat} (hx : a.eval x = .pointer (some ⟨b, off, none⟩)) :
    (execOp a.eval o).run P w = .ok (.value (.pointer (some ⟨b, off + p.1, none⟩))) w := by
  obtain ⟨Fs, F, g1, g2, g3, g4⟩ := field_of E h hp
  rw [← g4] at hk h0
  simp [execOp, ho, Instr.fieldAt, run_underlying g1, g2, hx, Instr.sureAddr, run_fieldPlace E hk h0, g3]

theorem run_part (E : Env P c z) {t : TypeId} (hk : (c.ty t).known = true) {l : List SC} {cs : List Value} (h : RepL β own w l cs) {off : Nat} {d : D} (hp : partOf (c.ty t) l off = some d) :
    ∃ v, (part t ⟨cs⟩ off).run P w = .ok v w ∧ RepD β own w d v := by
  unfold partOf at hp
  unfold part
  split at hp
  · rename_i ha
    simp only [Option.map_eq_some_iff] at hp
    obtain ⟨r, h1, rfl⟩ := hp
    obtain ⟨g1, g2⟩ := RepL.take _ (RepL.drop off h) h1
    refine ⟨.agg ⟨(cs.drop off).take (c.ty t).size⟩, ?_, ⟨_, rfl, g1⟩⟩
    simp [run_isAgg E hk, ha, run_sizeOf E hk]
  · rename_i ha
    split at hp
    · rename_i x l' hl
      simp only [Option.some.injEq] at hp
      subst hp
      have h2 := RepL.drop off h
      rw [hl] at h2
      cases hc : cs.drop off with
      | nil => rw [hc] at h2; exact h2.elim
      | cons v r =>
        rw [hc] at h2
        refine ⟨v, ?_, h2.1⟩
        have h3 : cs[off]? = some v := by
          have := congrArg (fun q => q[0]?) hc
          simpa using this
        have h4 : (c.ty t).isAgg = false := by simpa using ha
        simp [run_isAgg E hk, h4, h3]
    · cases hp

theorem sound_field (E : Env P c z) (hR : Rel w0 N s β a w) {o : Oper} {t : TypeId} {x : Operand} {f : Nat} (ho : o.op = .field t x f) {fs : List (Nat × Nat)} {m : Nat} (h : c.ty t = .struct fs m)
    {l : List SC} (hx : ev s x = some (.agg l)) {e : Eff}
    (he : ((nthF fs f).bind fun p => if (c.ty p.2).known then (partOf (c.ty p.2) l p.1).bind pureV else none) = some e) : Sound P w0 N s a w o e := by
  simp only [Option.bind_eq_some_iff] at he
  obtain ⟨p, hp, he⟩ := he
  split at he
  · rename_i hk
    obtain ⟨cs, ex, rl⟩ := ev_rep hR hx
    obtain ⟨Fs, F, g1, g2, g3, g4⟩ := field_of E h hp
    refine Sound.bindPure hR he fun d hd => ?_
    obtain ⟨v, k1, k2⟩ := run_part E hk rl hd
    refine ⟨v, ?_, k2⟩
    rw [← g3, ← g4] at k1
    simp [execOp, ho, Instr.field, run_underlying g1, ex, asAgg, g2, k1]
  · cases he

theorem litNat_rep {d : D} {n : Nat} {v : Value} (h : RepD β own w d v) (hn : litNat d = some n) : ∃ k, v = .int k n := by
  unfold litNat at hn
  split at hn
  · rename_i k m
    split at hn
    · simp only [Option.some.injEq] at hn; subst hn; exact ⟨k, h.1⟩
    · cases hn
  · cases hn

theorem ivOf_rep {d : D} {n : IV} {v : Value} (h : RepD β own w d v) (hn : ivOf d = some n) : ∃ k, v = .int k n.li ∧ inR k n.li := by
  cases d with
  | s x =>
    simp only [ivOf, Option.map_eq_some_iff] at hn
    obtain ⟨⟨k, m⟩, h1, rfl⟩ := hn
    exact ⟨k, asI_rep h h1⟩
  | agg l => simp [ivOf] at hn
  | tup l => simp [ivOf] at hn

theorem idx_ok {i : IV} {n : Nat} (h : ∀ b ∈ idxReq i (n : Int), b = true) : 0 ≤ i.li ∧ i.li < (n : Int) := by
  have h1 := h _ (List.mem_cons_self ..)
  have h2 := h (lbLt i.li (n : Int)) (by simp [idxReq])
  exact ⟨(lbLe_iff _ _).1 h1, (lbLt_iff _ _).1 h2⟩

theorem exec_indexAddr_slice (E : Env P c z) {o : Oper} {t e : TypeId} {x i : Operand} (ho : o.op = .indexAddr t x i) (h : c.ty t = .slice e) (hk : (c.ty e).known = true) {b off n cap : Nat} {k : IntKind} {j : Int}
    (hx : a.eval x = .slice (some ⟨b, off, none⟩) n cap) (hi : a.eval i = .int k j) (h0 : 0 ≤ j) (h1 : j < n) :
    (execOp a.eval o).run P w = .ok (.value (.pointer (some ⟨b, off + j.toNat * (c.ty e).size, none⟩))) w := by
  have e1 := E.ty t; rw [h] at e1
  simp [execOp, ho, Instr.indexAt, hi, asIntOf, run_underlying e1.1, hx, h0, h1, run_sizeOf E hk, addr_add]

theorem getD_of_lt {α : Type} {l : List α} {i : Nat} (h : i < l.length) (d : α) : l[i]? = some (l.getD i d) := by
  simp [List.getD_eq_getElem?_getD, h]

theorem sound_indexAddr_exts (E : Env P c z) (hR : Rel w0 N s β a w) {o : Oper} {t e : TypeId} {x i : Operand} (ho : o.op = .indexAddr t x i) (h : c.ty t = .slice e) (hk : (c.ty e).known = true) (hs : (c.ty e).size = 2)
    {l : List Ext} {fl : Bool} (hx : ev s x = some (.s (.exts l fl))) {d : D} (hi : ev s i = some d) {k : IV} (hd : ivOf d = some k) (hq : ∀ b ∈ idxReq k (l.length : Int), b = true) (q : List Bool) :
    Sound P w0 N s a w o ⟨.s (.eptr (lxKind l k.li) (lxBody l k.li) 0), none, q⟩ := by
  obtain ⟨A, cap, g1, g2, g3⟩ := ev_rep hR hx
  obtain ⟨kk, g4, g5⟩ := ivOf_rep (ev_rep hR hi) hd
  obtain ⟨i0, i1⟩ := idx_ok hq
  rcases g3 with rfl | ⟨b, off, rfl, hb, ⟨hn, _⟩, hc⟩
  · simp at i1; omega
  · have hlt : k.li.toNat < l.length := by omega
    obtain ⟨c1, c2, c3, c4⟩ := hc k.li.toNat _ (getD_of_lt hlt ⟨0, []⟩)
    refine Sound.pure hR (exec_indexAddr_slice E ho h hk g1 g4 i0 (by omega)) ⟨b, off + k.li.toNat * (c.ty e).size, rfl, hb, fun n _ => hn n, ?_⟩
    rw [hs]
    exact ⟨c1, c2, c3, c4⟩

theorem sound_indexAddr_strs (E : Env P c z) (hR : Rel w0 N s β a w) {o : Oper} {t e : TypeId} {x i : Operand} (ho : o.op = .indexAddr t x i) (h : c.ty t = .slice e) (hk : (c.ty e).known = true) (hs : (c.ty e).size = 1)
    {l : List (List UInt8)} (hx : ev s x = some (.s (.strs l))) {d : D} (hi : ev s i = some d) {k : IV} (hd : ivOf d = some k) (hq : ∀ b ∈ idxReq k (l.length : Int), b = true) (q : List Bool) :
    Sound P w0 N s a w o ⟨.s (.sptr (ltAt l k.li)), none, q⟩ := by
  obtain ⟨A, cap, g1, g2, g3⟩ := ev_rep hR hx
  obtain ⟨kk, g4, g5⟩ := ivOf_rep (ev_rep hR hi) hd
  obtain ⟨i0, i1⟩ := idx_ok hq
  rcases g3 with rfl | ⟨b, off, rfl, hb, hn, hc⟩
  · simp at i1; omega
  · have hlt : k.li.toNat < l.length := by omega
    obtain ⟨c1, c2⟩ := hc k.li.toNat _ (getD_of_lt hlt [])
    refine Sound.pure hR (exec_indexAddr_slice E ho h hk g1 g4 i0 (by omega)) ⟨b, off + k.li.toNat * (c.ty e).size, rfl, hb, fun n _ => hn n, ?_⟩
    rw [hs, Nat.mul_one]
    exact ⟨c1, c2⟩

theorem sound_indexAddr_ints (E : Env P c z) (hR : Rel w0 N s β a w) {o : Oper} {t e : TypeId} {x i : Operand} (ho : o.op = .indexAddr t x i) (h : c.ty t = .slice e) (hk : (c.ty e).known = true) (hs : (c.ty e).size = 1)
    {l : List Int} (hx : ev s x = some (.s (.ints l))) {d : D} (hi : ev s i = some d) {k : IV} (hd : ivOf d = some k) (hq : ∀ b ∈ idxReq k (l.length : Int), b = true) (q : List Bool) :
    Sound P w0 N s a w o ⟨.s (.iptr (llAt l k.li)), none, q⟩ := by
  obtain ⟨A, cap, g1, g2, g3⟩ := ev_rep hR hx
  obtain ⟨kk, g4, g5⟩ := ivOf_rep (ev_rep hR hi) hd
  obtain ⟨i0, i1⟩ := idx_ok hq
  rcases g3 with rfl | ⟨b, off, rfl, hb, hn, hc⟩
  · simp at i1; omega
  · have hlt : k.li.toNat < l.length := by omega
    obtain ⟨c1, c2⟩ := hc k.li.toNat _ (getD_of_lt hlt 0)
    refine Sound.pure hR (exec_indexAddr_slice E ho h hk g1 g4 i0 (by omega)) ⟨b, off + k.li.toNat * (c.ty e).size, rfl, hb, fun n _ => hn n, ?_⟩
    rw [hs, Nat.mul_one]
    exact ⟨c1, c2⟩

theorem exec_indexAddr_arr (E : Env P c z) {o : Oper} {t e n m : Nat} {x i : Operand} (ho : o.op = .indexAddr t x i) (h : c.ty t = .arr n e m) (hk : (c.ty e).known = true) {b off j : Nat} {k : IntKind}
    (hx : a.eval x = .pointer (some ⟨b, off, none⟩)) (hi : a.eval i = .int k j) (h1 : j < n) :
    (execOp a.eval o).run P w = .ok (.value (.pointer (some ⟨b, off + j * (c.ty e).size, none⟩))) w := by
  have e1 := E.ty t; rw [h] at e1
  have h2 : (0 : Int) ≤ j ∧ (j : Int) < n := ⟨by omega, by omega⟩
  simp [execOp, ho, Instr.indexAt, hi, asIntOf, run_underlying e1.1, hx, Instr.sureAddr, h2, h1, run_sizeOf E hk, addr_add]

theorem exec_index_str (E : Env P c z) {o : Oper} {t : TypeId} {x i : Operand} (ho : o.op = .index t x i) (h : c.ty t = .str) {l : List UInt8} {k : IntKind} {j : Int}
    (hx : a.eval x = .string ⟨⟨l⟩⟩) (hi : a.eval i = .int k j) (h0 : 0 ≤ j) (h1 : j < l.length) :
    (execOp a.eval o).run P w = .ok (.value (.int .u8 ((lsAt l j).toNat : Int))) w := by
  have e1 := E.ty t; rw [h] at e1
  have hlt : j.toNat < l.length := by omega
  have h3 : (ByteArray.mk ⟨l⟩)[j.toNat]? = some (lsAt l j) := by
    have h4 : j.toNat < (ByteArray.mk ⟨l⟩).size := hlt
    rw [ByteArray.getElem?_lt' _ _ h4]
    have h5 := getD_of_lt hlt (0 : UInt8)
    rw [List.getElem?_eq_getElem hlt] at h5
    simp only [Option.some.injEq] at h5 ⊢
    exact h5
  simp [execOp, ho, Instr.index, hi, asIntOf, run_underlying e1.1, hx, h0, h3]

theorem sound_extract (hR : Rel w0 N s β a w) {o : Oper} {x : Operand} {i : Nat} (ho : o.op = .extract x i) {l : List D} (hx : ev s x = some (.tup l)) {e : Eff} (he : (l[i]?.bind fun d => if d.clean then some d else none).bind pureV = some e) :
    Sound P w0 N s a w o e := by
  obtain ⟨vs, ex, rl⟩ := ev_rep hR hx
  refine Sound.bindPure hR he fun d hd => ?_
  have hd : l[i]? = some d := by
    simp only [Option.bind_eq_some_iff] at hd
    obtain ⟨d', h1, h2⟩ := hd
    split at h2
    · simp only [Option.some.injEq] at h2; subst h2; exact h1
    · cases h2
  have key : ∀ (l : List D) (vs : List Value) (i : Nat) (d : D), RepLs β (fun b => w0.heap.size ≤ b) w l vs → l[i]? = some d → ∃ v, vs[i]? = some v ∧ Rep1 β (fun b => w0.heap.size ≤ b) w d v := by
    intro l
    induction l with
    | nil => intro vs i d _ h; simp at h
    | cons y l ih =>
      intro vs i d hl h
      cases vs with
      | nil => exact hl.elim
      | cons v vs =>
        cases i with
        | zero => simp at h; subst h; exact ⟨v, by simp, hl.1⟩
        | succ i => simp at h; obtain ⟨u, h1, h2⟩ := ih vs i d hl.2 h; exact ⟨u, by simpa using h1, h2⟩
  obtain ⟨v, h1, h2⟩ := key l vs i d rl hd
  exact ⟨v, by simp [execOp, ho, ex, Instr.extract, h1], h2.toD⟩
end
end Go.Adit

namespace Go.Adit
open Go.RowKit

section
variable {P : Program} {w0 : Base} {N : Nat} {s : St} {β : Nat → Option Nat} {a : Act} {w : World} {c : Cfg} {z : Zs} {own : Nat → Prop}

theorem run_loadVar (E : Env P c z) {t : TypeId} (hk : (c.ty t).known = true) {l : List SC} {cs : List Value} (h : RepL β own w l cs) {b : Nat} {ty : TypeId}
    (hb : w.heap[b]? = some (.cells ⟨cs⟩ ty (0, 0))) {off : Nat} {d : D} (hp : partOf (c.ty t) l off = some d) :
    ∃ v, (loadVar t ⟨b, off, none⟩).run P w = .ok v w ∧ RepD β own w d v := by
  have hcell : ∀ j, w.cell? ⟨b, j, none⟩ = cs[j]? := fun j => by simp [World.cell?, hb]
  unfold partOf at hp
  unfold loadVar
  split at hp
  · rename_i ha
    simp only [Option.map_eq_some_iff] at hp
    obtain ⟨r, h1, rfl⟩ := hp
    obtain ⟨g1, g2⟩ := RepL.take _ (RepL.drop off h) h1
    refine ⟨.agg ⟨(cs.drop off).take (c.ty t).size⟩, ?_, ⟨_, rfl, g1⟩⟩
    have h3 : (loadCells ⟨b, off, none⟩ (c.ty t).size).run P w = .ok ⟨(cs.drop off).take (c.ty t).size⟩ w := by
      have := run_loadCells_list (P := P) w ⟨b, off, none⟩ ((cs.drop off).take (c.ty t).size) (fun j v hv => by
        rw [addr_add, hcell]
        rw [List.getElem?_take] at hv
        split at hv
        · simpa using hv
        · cases hv)
      rwa [show ((cs.drop off).take (c.ty t).size).length = (c.ty t).size by rw [List.length_take]; omega] at this
    simp [run_isAgg E hk, ha, run_sizeOf E hk, h3]
  · rename_i ha
    split at hp
    · rename_i x l' hl
      simp only [Option.some.injEq] at hp
      subst hp
      have h2 := RepL.drop off h
      rw [hl] at h2
      cases hc : cs.drop off with
      | nil => rw [hc] at h2; exact h2.elim
      | cons v r =>
        rw [hc] at h2
        refine ⟨v, ?_, h2.1⟩
        have h3 : cs[off]? = some v := by
          have := congrArg (fun q => q[0]?) hc
          simpa using this
        have h4 : (c.ty t).isAgg = false := by simpa using ha
        simp [run_isAgg E hk, h4, (hcell off).trans h3]
    · cases hp

theorem sound_load (E : Env P c z) (hR : Rel w0 N s β a w) {o : Oper} {t : TypeId} {x : Operand} (ho : o.op = .load t x) (hk : (c.ty t).known = true) {n off : Nat} (hx : ev s x = some (.s (.ptr n off)))
    {blk : Blk} (hm : s.m n = some blk) {e : Eff} (he : (partOf (c.ty t) blk.cells off).bind pureV = some e) : Sound P w0 N s a w o e := by
  obtain ⟨b, hb, ex⟩ := ev_rep hR hx
  obtain ⟨b', cs, ty, h1, h2, h3, _⟩ := hR.mem n blk hm
  obtain rfl : b = b' := by rw [hb] at h1; exact Option.some.inj h1
  refine Sound.bindPure hR he fun d hd => ?_
  obtain ⟨v, g1, g2⟩ := run_loadVar E hk h3 h2 hd
  exact ⟨v, by simp [execOp, ho, Instr.loadAt, Instr.sureAddr, ex, g1], g2⟩

theorem exec_load1 (E : Env P c z) {o : Oper} {t : TypeId} {x : Operand} (ho : o.op = .load t x) (hk : (c.ty t).known = true) (ha : (c.ty t).isAgg = false) {b off : Nat} (hx : a.eval x = .pointer (some ⟨b, off, none⟩))
    {v : Value} (hv : w.cell? ⟨b, off, none⟩ = some v) : (execOp a.eval o).run P w = .ok (.value v) w := by
  simp [execOp, ho, Instr.loadAt, Instr.sureAddr, hx, loadVar, run_isAgg E hk, ha, hv]

theorem exec_load2 (E : Env P c z) {o : Oper} {t : TypeId} {x : Operand} (ho : o.op = .load t x) (hk : (c.ty t).known = true) (ha : (c.ty t).isAgg = true) (hs : (c.ty t).size = 2) {b off : Nat}
    (hx : a.eval x = .pointer (some ⟨b, off, none⟩)) {u v : Value} (hu : w.cell? ⟨b, off, none⟩ = some u) (hv : w.cell? ⟨b, off + 1, none⟩ = some v) :
    (execOp a.eval o).run P w = .ok (.value (.agg ⟨[u, v]⟩)) w := by
  have h3 : (loadCells ⟨b, off, none⟩ 2).run P w = .ok ⟨[u, v]⟩ w := by
    have := run_loadCells_list (P := P) w ⟨b, off, none⟩ [u, v] (fun j x hx => by
      rw [addr_add]
      match j, hx with
      | 0, hx => simp at hx; subst hx; exact hu
      | 1, hx => simp at hx; subst hx; exact hv
      | n + 2, hx => simp at hx)
    simpa using this
  simp [execOp, ho, Instr.loadAt, Instr.sureAddr, hx, loadVar, run_isAgg E hk, ha, run_sizeOf E hk, hs, h3]

/-- a store into a block: what stands in the row behind it -/
theorem run_storeCells_at (g : Nat) (ty : TypeId) (off : Nat) : ∀ (vs : List Value) (i : Nat) (cur : List Value) (w : World), w.heap[g]? = some (.cells ⟨cur⟩ ty (0, 0)) → off + i + vs.length ≤ cur.length →
    (∀ v ∈ vs, v.oneCell' = true) → (storeCells ⟨g, off, none⟩ vs i).run P w = .ok () (w.setRow g ⟨cur.take (off + i) ++ (vs ++ cur.drop (off + i + vs.length))⟩)
  | [], i, cur, w, hg, _, _ => by
    have hlt : g < w.heap.size := (Array.getElem?_eq_some_iff.1 hg).1
    have hv : w.heap[g] = .cells ⟨cur⟩ ty (0, 0) := (Array.getElem?_eq_some_iff.1 hg).2
    simp only [storeCells, List.nil_append, List.length_nil, Nat.add_zero, List.take_append_drop]
    show Result.ok () w = _
    congr 1
    unfold World.setRow
    cases w with
    | mk heap tape drawn os output =>
      congr 1
      apply Array.ext
      · simp
      · intro k h1 h2
        simp only [Array.getElem_modify]
        split
        · rename_i hk; subst hk; simp at hv; simp [hv]
        · rfl
  | v :: rest, i, cur, w, hg, hl, h1 => by
    have hi : off + i < cur.length := by simp at hl; omega
    have hcell : w.cell? ⟨g, off + i, none⟩ = some cur[off + i] := by simp [World.cell?, hg, hi]
    have hfro : w.frozen? ⟨g, off + i, none⟩ = false := by simp [World.frozen?, hg]
    have hst : (store ((⟨g, off, none⟩ : Go.Addr).add i) v).run P w = .ok () (w.setRow g ⟨cur.set (off + i) v⟩) := by
      rw [addr_add, run_store P w _ v _ (h1 v (by simp)), hcell]
      simp [hfro, setCell_eq_setRow w g (off + i) ⟨cur⟩ ty (0, 0) v hg]
    have ih := run_storeCells_at g ty off rest (i + 1) (cur.set (off + i) v) (w.setRow g ⟨cur.set (off + i) v⟩) (setRow_heap w g ⟨cur⟩ _ ty _ hg) (by simp at hl ⊢; omega) (fun x hx => h1 x (by simp [hx]))
    simp only [storeCells, Sem.run_bind, hst, Result.andThen_ok, ih, setRow_setRow]
    congr 3
    rw [show off + (i + 1) = off + i + 1 by omega, List.drop_set_of_lt (by omega)]
    rw [List.take_add_one, List.take_set_of_le (by omega), List.getElem?_set_self hi]
    simp [show off + i + 1 + rest.length = off + i + (rest.length + 1) by omega]

theorem Rel.seen (hR : Rel w0 N s β a w) {n : Nat} {blk : Blk} (h : s.m n = some blk) : hidN n = false := by
  cases e : hidN n with
  | false => rfl
  | true => rw [hR.nhid n e] at h; cases h

theorem Rel.setRow (hR : Rel w0 N s β a w) {n b : Nat} (hn : hidN n = false) (hb : β n = some b) {blk : Blk} {cs : List Value} {ty : TypeId} (hm : w.heap[b]? = some (.cells ⟨cs⟩ ty (0, 0))) {ds : List Value}
    (hc : RepL β (fun b => w0.heap.size ≤ b) w blk.cells ds) (hf : flats blk.cells = true) : Rel w0 N { s with m := updM s.m n blk } β a (w.setRow b ⟨ds⟩) := by
  have st : Step β β w (w.setRow b ⟨ds⟩) := by
    refine ⟨fun k o _ hk hn hv => (World.cell?_of_block (w := w) (setRow_other w b k _ (fun e => hn n (by rw [e]; exact hb)))).trans hv, by simp, fun _ _ h => h, fun _ _ h => h, fun _ _ h => h, fun m k o hm hk ho => ?_⟩
    rw [setRow_other w b k _ (fun e => by have := hR.inj m n k hk (by rw [e]; exact hb); subst this; rw [hn] at hm; cases hm)]
    exact ho
  exact {
    sz := hR.sz
    tm := fun t d hd => let ⟨v, h1, h2⟩ := hR.tm t d hd; ⟨v, h1, h2.mono st⟩
    mem := fun m bk h => by
      simp only [updM_at] at h
      by_cases e : m = n
      · subst e
        simp only [if_true, Option.some.injEq] at h
        subst h
        exact ⟨b, ds, ty, hb, setRow_heap w b ⟨cs⟩ _ ty _ hm, hc.mono st, hf⟩
      · simp only [if_neg e] at h
        obtain ⟨b', cs', ty', h1, h2, h3, h4⟩ := hR.mem m bk h
        exact ⟨b', cs', ty', h1, by rw [setRow_other w b b' _ (fun e' => e (hR.inj m n b' h1 (by rw [e']; exact hb)))]; exact h2, h3.mono st, h4⟩
    dom := fun m hh h => by
      simp only [updM_at] at h
      by_cases e : m = n
      · subst e; simp at h
      · simp only [if_neg e] at h; exact hR.dom m hh h
    nhid := fun m hm => by
      simp only [updM_at]
      rw [if_neg (fun e => by subst e; rw [hn] at hm; cases hm)]
      exact hR.nhid m hm
    inj := hR.inj
    new := fun m b' h => by have := hR.new m b' h; simpa using this
    bel := by
      have k := hR.bel
      refine ⟨k.os, k.tape, k.output, by simpa using k.size, fun j hj hx => ?_⟩
      rw [setRow_other w b j _ (fun e => ?_)]
      · exact k.block j hj hx
      · subst e
        rcases (hR.new n j hb).1 with h | h
        · omega
        · exact hx h
    dfr := hR.dfr
    lnt := hR.lnt }

theorem sound_store (E : Env P c z) (hR : Rel w0 N s β a w) {o : Oper} {t : TypeId} {x y : Operand} (ho : o.op = .store t x y) (hk : (c.ty t).known = true) {n off : Nat} (hx : ev s x = some (.s (.ptr n off)))
    {cs : List SC} (hy : (ev s y).bind cellsOf = some cs) {blk : Blk} (hm : s.m n = some blk) (hl : cs.length = (c.ty t).size) (hf : cs.all SC.flat = true) {l' : List SC} (hs : setAt blk.cells off cs = some l') :
    Sound P w0 N s a w o ⟨.tup [], some (n, ⟨l', blk.ty⟩), []⟩ := by
  obtain ⟨b, hb, ex⟩ := ev_rep hR hx
  obtain ⟨b', vs, ty, h1, h2, h3, h4⟩ := hR.mem n blk hm
  obtain rfl : b = b' := by rw [hb] at h1; exact Option.some.inj h1
  cases hyy : ev s y with
  | none => simp [hyy] at hy
  | some dy =>
    simp only [hyy, Option.bind_some] at hy
    have ry := cellsOf_rep (ev_rep hR hyy) hy
    have hlen := ry.length
    obtain ⟨g1, g2⟩ := RepL.set off h3 ry hs
    intro s1 hs1
    have e1 : s1 = { s with m := updM s.m n ⟨l', blk.ty⟩ } := by
      obtain ⟨dst, op, tt, pos, af, g⟩ := o
      simp only at ho
      subst ho
      simpa [putB, isWr] using hs1.symm
    subst e1
    have hrun := run_storeCells_at (P := P) b ty off (a.eval y).cells.toList 0 vs w h2 (by simpa using g1) (fun v hv => ry.one v hv)
    refine Does.skip (w' := w.setRow b ⟨vs.take off ++ ((a.eval y).cells.toList ++ vs.drop (off + (a.eval y).cells.toList.length))⟩) ?_ ⟨β, (hR.setRow (hR.seen hm) hb h2 g2 (blk := ⟨l', blk.ty⟩) (setAt_flats off h4 hf hs)).killO o _, ⟨[], rfl, trivial⟩⟩
    have h5 : (a.eval y).cells.size = (c.ty t).size := by rw [← hl, hlen]; simp
    simp only [Nat.add_zero] at hrun
    simp [execOp, ho, Instr.storeAt, Instr.sureAddr, ex, storeVar, run_sizeOf E hk, h5, hrun]

theorem sound_nilCheck (hR : Rel w0 N s β a w) {o : Oper} {x : Operand} (ho : o.op = .nilCheck x) {n off : Nat} (hx : ev s x = some (.s (.ptr n off))) {e : Eff} (he : pureS (.ptr n off) = some e) : Sound P w0 N s a w o e := by
  obtain ⟨b, hb, ex⟩ := ev_rep hR hx
  exact Sound.pureS hR he (v := .pointer (some ⟨b, off, none⟩)) (by simp [execOp, ho, ex]) ⟨b, hb, rfl⟩

theorem exec_len (E : Env P c z) {o : Oper} {x : Operand} {ts : Array TypeId} (ho : o.op = .call { callee := .builtin .len, args := #[x], argTypes := ts }) {v : Value} {n : Nat} (hx : a.eval x = v)
    {t : TypeId} (ht : ts[0]? = some t) (h : (∃ l : List UInt8, c.ty t = .str ∧ v = .string ⟨⟨l⟩⟩ ∧ n = l.length) ∨ (∃ e p cap, c.ty t = .slice e ∧ v = .slice p n cap)) :
    (execOp a.eval o).run P w = .ok (.value (.int .i64 n)) w := by
  have e1 := E.ty t
  rcases h with ⟨l, h1, rfl, rfl⟩ | ⟨e, p, cap, h1, rfl⟩ <;> rw [h1] at e1
  · have h2 : (ByteArray.mk ⟨l⟩).size = l.length := rfl
    simp [execOp, ho, resolve, invoke, builtin, Builtin.len_, ht, hx, run_underlying e1.1, goInt, h2]
  · simp [execOp, ho, resolve, invoke, builtin, Builtin.len_, ht, hx, run_underlying e1.1, goInt]

theorem inR_len {n : Nat} (h : (n : Int) ≤ imax) : inR .i64 n := by
  unfold imax at h
  simp only [inR, IntKind.min, IntKind.max, IntKind.signed, IntKind.bits]
  simp
  omega

theorem exec_minmax {o : Oper} {x y : Operand} {ts : Array TypeId} (mx : Bool) (ho : o.op = .call { callee := .builtin (if mx then .max else .min), args := #[x, y], argTypes := ts }) {k k' : IntKind} {m n : Int}
    (hx : a.eval x = .int k m) (hy : a.eval y = .int k' n) : (execOp a.eval o).run P w = .ok (.value (.int k (if mx then (if n > m then n else m) else (if n < m then n else m)))) w := by
  cases mx <;> simp at ho <;> simp [execOp, ho, resolve, invoke, builtin, Builtin.max_, Builtin.min_, Builtin.max2, Builtin.min2, hx, hy]
end
end Go.Adit

namespace Go.Adit
open Go.RowKit

section
variable {P : Program} {w0 : Base} {N : Nat} {s : St} {β : Nat → Option Nat} {a : Act} {w : World} {c : Cfg} {z : Zs} {own : Nat → Prop}

theorem extract_mk' (l : List UInt8) (i j : Nat) : (ByteArray.mk ⟨l⟩).extract i j = ByteArray.mk ⟨(l.take j).drop i⟩ := by
  have := ByteArray.extract_mk l i j
  rw [List.drop_take]
  exact this

/-- the bound of a slice of a string, where it is written and where not -/
def loOf (l : Option IV) : Int := match l with | none => 0 | some i => i.li
def hiOf (n : Nat) (l : Option IV) : Int := match l with | none => n | some i => i.li

def IvAt (a : Act) (x : Option Operand) (i : Option IV) : Prop :=
  match x, i with
  | none, none => True
  | some y, some n => ∃ k, a.eval y = .int k n.li
  | _, _ => False

def NatAt (a : Act) (x : Option Operand) (m n : Nat) : Prop :=
  match x with
  | none => n = m
  | some y => ∃ k, a.eval y = .int k n

theorem exec_slice_str (E : Env P c z) {o : Oper} {t : TypeId} {x : Operand} {lo hi : Option Operand} (ho : o.op = .slice t x lo hi none) (h : c.ty t = .str) {l : List UInt8} (hx : a.eval x = .string ⟨⟨l⟩⟩)
    {i j : Option IV} (hlo : IvAt a lo i) (hhi : IvAt a hi j)
    (q1 : ∀ n, i = some n → 0 ≤ n.li ∧ n.li ≤ hiOf l.length j) (q2 : ∀ n, j = some n → 0 ≤ n.li ∧ n.li ≤ l.length) :
    (execOp a.eval o).run P w = .ok (.value (.string ⟨⟨lsSub l (loOf i) (hiOf l.length j)⟩⟩)) w := by
  have e1 := E.ty t; rw [h] at e1
  have hsz : (ByteArray.mk ⟨l⟩).size = l.length := rfl
  cases lo with
  | none =>
    cases i with
    | some n => exact hlo.elim
    | none =>
      cases hi with
      | none =>
        cases j with
        | some n => exact hhi.elim
        | none =>
          simp [execOp, ho, Instr.sliceAt, run_underlying e1.1, Instr.slice, hx, Instr.sliceBounds, lsSub, loOf, hiOf]
      | some y =>
        cases j with
        | none => exact hhi.elim
        | some n =>
          obtain ⟨k, hk⟩ := hhi
          have q := q2 n rfl
          simp [execOp, ho, Instr.sliceAt, run_underlying e1.1, Instr.slice, hx, hk, Instr.sliceBounds, Instr.sliceBound, asIntOf, q, extract_mk', lsSub, loOf, hiOf, hsz]
  | some yl =>
    cases i with
    | none => exact hlo.elim
    | some m =>
      obtain ⟨k1, hk1⟩ := hlo
      have p := q1 m rfl
      cases hi with
      | none =>
        cases j with
        | some n => exact hhi.elim
        | none =>
          simp only [hiOf] at p
          simp [execOp, ho, Instr.sliceAt, run_underlying e1.1, Instr.slice, hx, hk1, Instr.sliceBounds, Instr.sliceBound, asIntOf, p, extract_mk', lsSub, loOf, hiOf, hsz]
      | some y =>
        cases j with
        | none => exact hhi.elim
        | some n =>
          obtain ⟨k, hk⟩ := hhi
          have q := q2 n rfl
          simp only [hiOf] at p
          have p2 : m.li ≤ max n.li 0 := by omega
          simp [execOp, ho, Instr.sliceAt, run_underlying e1.1, Instr.slice, hx, hk, hk1, Instr.sliceBounds, Instr.sliceBound, asIntOf, q, p.1, p2, extract_mk', lsSub, loOf, hiOf, hsz]

theorem exec_slice_arr (E : Env P c z) {o : Oper} {t e n m : Nat} {x : Operand} {lo hi : Option Operand} (ho : o.op = .slice t x lo hi none) (h : c.ty t = .arr n e m) (hk : (c.ty e).known = true) {b off : Nat}
    (hx : a.eval x = .pointer (some ⟨b, off, none⟩)) {i j : Nat} (hlo : NatAt a lo 0 i) (hhi : NatAt a hi n j)
    (h1 : i ≤ j) (h2 : j ≤ n) (h3 : i < n) :
    (execOp a.eval o).run P w = .ok (.value (.slice (some ⟨b, off + i * (c.ty e).size, none⟩) (j - i) (n - i))) w := by
  have e1 := E.ty t; rw [h] at e1
  have g1 : (0 : Int) ≤ i ∧ (i : Int) ≤ (j : Int) := ⟨by omega, by omega⟩
  have g2 : (0 : Int) ≤ j ∧ (j : Int) ≤ (n : Int) := ⟨by omega, by omega⟩
  have g3 : ¬ n = i := by omega
  cases lo with
  | none =>
    simp only [NatAt] at hlo
    subst hlo
    cases hi with
    | none =>
      simp only [NatAt] at hhi
      subst hhi
      simp [execOp, ho, Instr.sliceAt, run_underlying e1.1, hx, Instr.sureAddr, Instr.sliceBounds, run_sizeOf E hk, addr_add]
    | some y =>
      obtain ⟨k, hk1⟩ := hhi
      simp [execOp, ho, Instr.sliceAt, run_underlying e1.1, hx, hk1, Instr.sureAddr, Instr.sliceBounds, Instr.sliceBound, asIntOf, h2, run_sizeOf E hk, addr_add]
  | some yl =>
    obtain ⟨k0, hk0⟩ := hlo
    cases hi with
    | none =>
      simp only [NatAt] at hhi
      subst hhi
      simp [execOp, ho, Instr.sliceAt, run_underlying e1.1, hx, hk0, Instr.sureAddr, Instr.sliceBounds, Instr.sliceBound, asIntOf, h1, run_sizeOf E hk, g3, addr_add]
    | some y =>
      obtain ⟨k, hk1⟩ := hhi
      simp [execOp, ho, Instr.sliceAt, run_underlying e1.1, hx, hk0, hk1, Instr.sureAddr, Instr.sliceBounds, Instr.sliceBound, asIntOf, h1, h2, run_sizeOf E hk, g3, addr_add]

theorem bytes_rep : ∀ {l : List SC} {cs : List Value} {ys : List UInt8}, RepL β own w l cs → Ops.bytes l = some ys → ∃ ns : List Int, cs = ns.map (Value.int .u8) ∧ ns.map (fun n => UInt8.ofNat n.toNat) = ys
  | [], [], ys, _, h => by simp [Ops.bytes] at h; subst h; exact ⟨[], rfl, rfl⟩
  | .byte y :: l, v :: cs, ys, ⟨h1, h2⟩, h => by
    simp only [Ops.bytes, Option.map_eq_some_iff] at h
    obtain ⟨r, hr, rfl⟩ := h
    obtain ⟨ns, rfl, rfl⟩ := bytes_rep h2 hr
    exact ⟨(y.toNat : Int) :: ns, by rw [show v = _ from h1]; rfl, by simp⟩
  | .int .u8 n :: l, v :: cs, ys, ⟨h1, h2⟩, h => by
    simp only [Ops.bytes, Option.map_eq_some_iff] at h
    obtain ⟨r, hr, rfl⟩ := h
    obtain ⟨ns, rfl, rfl⟩ := bytes_rep h2 hr
    exact ⟨n.li :: ns, by rw [show v = _ from h1.1]; rfl, by simp [lyOfInt]⟩
  | .int .i8 _ :: _, _, _, _, h | .int .i16 _ :: _, _, _, _, h | .int .i32 _ :: _, _, _, _, h | .int .i64 _ :: _, _, _, _, h | .int .u16 _ :: _, _, _, _, h | .int .u32 _ :: _, _, _, _, h
  | .int .u64 _ :: _, _, _, _, h | .bool _ :: _, _, _, _, h | .str _ :: _, _, _, _, h | .exts _ _ :: _, _, _, _, h | .strs _ :: _, _, _, _, h | .ints _ :: _, _, _, _, h | .ptr _ _ :: _, _, _, _, h
  | .lsl _ _ _ _ :: _, _, _, _, h | .eptr _ _ _ :: _, _, _, _, h | .sptr _ :: _, _, _, _, h | .iptr _ :: _, _, _, _, h | .fn _ :: _, _, _, _, h | .nilp :: _, _, _, _, h => by simp [Ops.bytes] at h
  | [], _ :: _, _, h, _ => h.elim
  | _ :: _, [], _, h, _ => h.elim

theorem foldl_push : ∀ (ns : List Int) (l : List UInt8), ns.foldl (fun (r : ByteArray) n => r.push (UInt8.ofNat n.toNat)) ⟨⟨l⟩⟩ = ⟨⟨l ++ ns.map fun n => UInt8.ofNat n.toNat⟩⟩
  | [], l => by simp
  | n :: ns, l => by
    simp only [List.foldl_cons, List.map_cons]
    have h : (ByteArray.mk ⟨l⟩).push (UInt8.ofNat n.toNat) = ⟨⟨l ++ [UInt8.ofNat n.toNat]⟩⟩ := by
      simp [ByteArray.push]
    rw [h, foldl_push ns]
    simp

theorem sound_convB (E : Env P c z) (hR : Rel w0 N s β a w) {o : Oper} {src dst e : TypeId} {x : Operand} (ho : o.op = .convert src dst x) (h1 : c.ty src = .slice e) (h2 : c.ty dst = .str) (h3 : c.ty e = .int .u8)
    {n off len cap : Nat} (hx : ev s x = some (.s (.lsl n off len cap))) {blk : Blk} (hm : s.m n = some blk) {ys : List UInt8} (hy : (takeN len (dropN off blk.cells)).bind Ops.bytes = some ys) (hl : len ≤ 65536)
    {ef : Eff} (he : pureS (.str (lsOf ys)) = some ef) : Sound P w0 N s a w o ef := by
  obtain ⟨b, hb, ex, _⟩ := ev_rep hR hx
  obtain ⟨b', vs, ty, g1, g2, g3, _⟩ := hR.mem n blk hm
  obtain rfl : b = b' := by rw [hb] at g1; exact Option.some.inj g1
  simp only [Option.bind_eq_some_iff] at hy
  obtain ⟨r, hr, hy⟩ := hy
  obtain ⟨k1, k2⟩ := RepL.take _ (RepL.drop off g3) hr
  obtain ⟨ns, e1, e2⟩ := bytes_rep k1 hy
  have hlen : ns.length = len := by
    have := congrArg List.length e1
    simp only [List.length_take, List.length_map] at this
    omega
  have hcell : ∀ j, w.cell? ⟨b, j, none⟩ = vs[j]? := fun j => by simp [World.cell?, g2]
  have hload : (loadCells ⟨b, off, none⟩ len).run P w = .ok (ns.map (Value.int .u8)).toArray w := by
    have := run_loadCells_list (P := P) w ⟨b, off, none⟩ (ns.map (Value.int .u8)) (fun j v hv => by
      rw [addr_add, hcell]
      rw [← e1, List.getElem?_take] at hv
      split at hv
      · simpa using hv
      · cases hv)
    rwa [show (ns.map (Value.int .u8)).length = len by simpa using hlen] at this
  have t1 := E.ty src; rw [h1] at t1
  have t2 := E.ty dst; rw [h2] at t2
  have t3 := E.ty e; rw [h3] at t3
  have hrun : (convert src dst (a.eval x)).run P w = .ok (.string ⟨⟨ys⟩⟩) w := by
    rw [ex, run_convert_bytes_string w src dst e _ _ _ t1.1 t3.1 t2.1, run_bytesToString w _ _ _ ns hload]
    have := foldl_push ns []
    rw [show ByteArray.empty = ⟨⟨[]⟩⟩ from rfl, this, e2]
    rfl
  refine Sound.pureS hR he (v := .string ⟨⟨ys⟩⟩) (by simp [execOp, ho, hrun]) ⟨rfl, ?_⟩
  have : ys.length = len := by rw [← e2]; simpa using hlen
  simp only [lsOf]
  unfold imax
  omega

theorem strs_rep : ∀ {l : List SC} {cs : List Value} {ys : List (List UInt8)}, RepL β own w l cs → Ops.strs l = some ys → cs.length = ys.length ∧ ∀ (i : Nat) (e : List UInt8), ys[i]? = some e → cs[i]? = some (.string ⟨⟨e⟩⟩) ∧ (e.length : Int) ≤ imax
  | [], [], ys, _, h => by simp [Ops.strs] at h; subst h; simp
  | x :: l, v :: cs, ys, ⟨h1, h2⟩, h => by
    cases x <;> simp [Ops.strs] at h
    case str y =>
      obtain ⟨r, hr, rfl⟩ := h
      obtain ⟨g1, g2⟩ := strs_rep h2 hr
      refine ⟨by simp [g1], fun i e he => ?_⟩
      cases i with
      | zero => simp at he; subst he; exact ⟨by rw [show v = _ from h1.1]; rfl, h1.2⟩
      | succ i => simp at he ⊢; exact g2 i e he
  | [], _ :: _, _, h, _ => h.elim
  | _ :: _, [], _, h, _ => h.elim

theorem Rel.hidInj (h : Rel w0 N s β a w) : ∀ n m b, hidN n = true → β n = some b → β m = some b → n = m := fun n m b _ h1 h2 => h.inj n m b h1 h2

theorem argOf_rep (hR : Rel w0 N s β a w) {d d' : D} {v : Value} (hv : RepD β (fun b => w0.heap.size ≤ b) w d v) (h : argOf s d = some d') : Rep1 (fun _ => none) (fun _ => True) w d' v := by
  cases d with
  | tup l => simp [argOf] at h
  | agg l =>
    exact Rep1.lend (β2 := fun _ => none) (fun _ _ h => by cases h) hR.hidInj (d := .agg l) h hv
  | s x =>
    by_cases hl : ∃ n off len cap, x = .lsl n off len cap
    · obtain ⟨n, off, len, cap, rfl⟩ := hl
      simp only [argOf] at h
      split at h
      · rename_i blk hm
        simp only [Option.map_eq_some_iff, Option.bind_eq_some_iff] at h
        obtain ⟨ys, ⟨r, hr, hy⟩, rfl⟩ := h
        obtain ⟨b, hb, rfl, hlen⟩ := hv
        obtain ⟨b', vs, ty, g1, g2, g3, _⟩ := hR.mem n blk hm
        obtain rfl : b = b' := by rw [hb] at g1; exact Option.some.inj g1
        obtain ⟨k1, k2⟩ := RepL.take _ (RepL.drop off g3) hr
        obtain ⟨m1, m2⟩ := strs_rep k1 hy
        have hyl : ys.length = len := by rw [← m1, List.length_take]; omega
        subst hyl
        refine ⟨_, cap, rfl, hlen, .inr ⟨b, off, rfl, (hR.new n b hb).2, fun _ => by simp, fun i e he => ?_⟩⟩
        obtain ⟨c1, c2⟩ := m2 i e he
        refine ⟨?_, c2⟩
        rw [List.getElem?_take] at c1
        split at c1
        · simpa [World.cell?, g2] using c1
        · cases c1
      · cases h
    · have h' : argFlat (.s x) = some d' := by
        cases x <;> first
          | exact absurd ⟨_, _, _, _, rfl⟩ hl
          | exact h
      exact Rep1.lend (β2 := fun _ => none) (fun _ _ h => by cases h) hR.hidInj h' hv

theorem argsOf_rep (hR : Rel w0 N s β a w) : ∀ {l : List Operand} {ds : List D}, argsOf s l = some ds → RepLs (fun _ => none) (fun _ => True) w ds (l.map a.eval)
  | [], ds, h => by simp [argsOf] at h; subst h; trivial
  | x :: l, ds, h => by
    simp only [argsOf] at h
    split at h
    · rename_i d r h1 h2
      simp only [Option.some.injEq] at h
      subst h
      simp only [Option.bind_eq_some_iff] at h1
      obtain ⟨d0, h3, h4⟩ := h1
      exact ⟨argOf_rep hR (ev_rep hR h3) h4, argsOf_rep hR h2⟩
    · cases h

theorem RepS.lift {x : SC} {v : Value} {w' : World} (hc : x.clean = true) (hβ : ∀ n b, β n = some b → b < w.heap.size) (h0 : w0.heap.size ≤ w.heap.size)
    {β0 : Nat → Option Nat} (h : RepS β0 (fun b => w.heap.size ≤ b) w' x v) : RepS β (fun b => w0.heap.size ≤ b) w' x v := by
  cases x <;> simp [SC.clean] at hc <;> simp only [RepS] at h ⊢
  case bool | int | byte | str => exact h
  case own gl =>
    exact ListAt.imp h fun b hb => ⟨fun n hn => by have := hβ n b hn; have := hb.2; omega, Nat.le_trans h0 hb.2⟩
  case exts l o =>
    cases o <;> simp at hc
    obtain ⟨a, cap, e1, e2, e3⟩ := h
    refine ⟨a, cap, e1, e2, e3.imp id fun ⟨b, off, f1, f2, ⟨_, f3⟩, f4⟩ => ⟨b, off, f1, f2, ⟨fun n hn => ?_, fun _ => Nat.le_trans h0 (f3 rfl)⟩, f4⟩⟩
    have := hβ n b hn
    have := f3 rfl
    omega

theorem RepL.lift {w' : World} {β0 : Nat → Option Nat} (hβ : ∀ n b, β n = some b → b < w.heap.size) (h0 : w0.heap.size ≤ w.heap.size) : ∀ {l : List SC} {cs : List Value}, l.all SC.clean = true →
    RepL β0 (fun b => w.heap.size ≤ b) w' l cs → RepL β (fun b => w0.heap.size ≤ b) w' l cs
  | [], [], _, _ => trivial
  | x :: l, v :: cs, hf, ⟨h1, h2⟩ => by
    simp only [List.all_cons, Bool.and_eq_true] at hf
    exact ⟨h1.lift hf.1 hβ h0, RepL.lift hβ h0 hf.2 h2⟩
  | [], _ :: _, _, h => h.elim
  | _ :: _, [], _, h => h.elim

theorem Rep1.lift {w' : World} {β0 : Nat → Option Nat} (hβ : ∀ n b, β n = some b → b < w.heap.size) (h0 : w0.heap.size ≤ w.heap.size) {d : D} {v : Value} (hc : d.clean = true)
    (h : Rep1 β0 (fun b => w.heap.size ≤ b) w' d v) : Rep1 β (fun b => w0.heap.size ≤ b) w' d v := by
  cases d with
  | s x => exact RepS.lift hc hβ h0 h
  | agg l => obtain ⟨cs, e1, e2⟩ := h; exact ⟨cs, e1, RepL.lift hβ h0 hc e2⟩
  | tup l => exact h.elim

theorem RepLs.lift {w' : World} {β0 : Nat → Option Nat} (hβ : ∀ n b, β n = some b → b < w.heap.size) (h0 : w0.heap.size ≤ w.heap.size) : ∀ {l : List D} {cs : List Value}, l.all D.clean = true →
    RepLs β0 (fun b => w.heap.size ≤ b) w' l cs → RepLs β (fun b => w0.heap.size ≤ b) w' l cs
  | [], [], _, _ => trivial
  | x :: l, v :: cs, hf, ⟨h1, h2⟩ => by
    simp only [List.all_cons, Bool.and_eq_true] at hf
    exact ⟨h1.lift hβ h0 hf.1, RepLs.lift hβ h0 hf.2 h2⟩
  | [], _ :: _, _, h => h.elim
  | _ :: _, [], _, h => h.elim

theorem RepD.lift {w' : World} {β0 : Nat → Option Nat} (hβ : ∀ n b, β n = some b → b < w.heap.size) (h0 : w0.heap.size ≤ w.heap.size) {d : D} {v : Value} (hc : d.cleanT = true)
    (h : RepD β0 (fun b => w.heap.size ≤ b) w' d v) : RepD β (fun b => w0.heap.size ≤ b) w' d v := by
  cases d with
  | tup l => obtain ⟨vs, e1, e2⟩ := h; exact ⟨vs, e1, RepLs.lift hβ h0 hc e2⟩
  | s x => exact RepS.lift hc hβ h0 h
  | agg l => exact Rep1.lift (d := .agg l) hβ h0 hc h

theorem run_enter {o : Oper} {k : Call} {f : FuncId} (ho : o.op = .call k) (hf : k.callee = .value (.func f)) (hb : HasBody P f) : (execOp a.eval o).run P w = .ok (.enter f (k.args.map a.eval)) w := by
  obtain ⟨fn, f1, f2, f3⟩ := hb
  obtain ⟨callee, args, ats⟩ := k
  simp only at hf
  subst hf
  have f2' : ¬ fn.name = "runtime.NumGoroutine" := by simpa using f2
  have f3' : ¬ fn.body = none := by intro e; rw [e] at f3; simp at f3
  simp [execOp, ho, resolve, Act.eval, Deferred.ofValue, invoke, callFunc, f1, f2', f3']

theorem wp_enter {o : Oper} {k : Call} {f : FuncId} (ho : o.op = .call k) (hf : k.callee = .value (.func f)) (hb : HasBody P f) {R : Ending → World → Prop} (h : Calls P f ⟨k.args.toList.map a.eval⟩ w R)
    {K : Act → World → Prop} {Q : Exit → Act → World → Prop} (hK : ∀ e w', R e w' → match e with | .returned v => K (a.put o.dst v) w' | .panicked ch => Q (.panic ch) a w' | .outgrown => False) : o.wp P a w K Q := by
  unfold Oper.wp
  rw [run_enter ho hf hb]
  simp only [Oper.upon]
  rw [show (⟨k.args.toList.map a.eval⟩ : Array Value) = k.args.map a.eval by apply Array.ext'; simp] at h
  refine h.mono fun e w' hr => ?_
  have := hK e w' hr
  cases e with
  | returned v => exact this
  | panicked ch => exact this
  | outgrown => exact this.elim

theorem sound_call (E : Env P c z) (hR : Rel w0 N s β a w) {o : Oper} {k : Call} {f : FuncId} (ho : o.op = .call k) (hf : k.callee = .value (.func f)) (hlt : c.lent f = none) {l : List D} (hl : argsOf s k.args.toList = some l)
    (hdie : ∀ b n, c.die f [] l = some (b, n) → b.lb = false) {r : D × List Bool}
    (hc : c.call f l = some r) (hcl : r.1.cleanT = true) (hq : ∀ b ∈ r.2, b = true) : Sound P w0 N s a w o ⟨r.1, none, r.2⟩ := by
  obtain ⟨hb, hcon⟩ := E.call f l r.1 r.2 hlt hdie hc hq
  intro s1 hs1
  simp only [putB, Option.some.injEq] at hs1
  subst hs1
  intro K Q hK
  refine wp_enter ho hf hb (hcon w _ (argsOf_rep hR hl)) ?_
  rintro e w' ⟨v, rfl, h1, h2⟩
  exact hK v w' ⟨β, (hR.below h2).killO o _, RepD.lift (fun n b hn => (hR.new n b hn).2) hR.bel.size hcl h1⟩

theorem onlyB_far {b b' : Nat} (h : b' ≠ b) : ∀ n, onlyB b n ≠ some b' := by
  intro n e
  unfold onlyB at e
  split at e
  · simp only [Option.some.injEq] at e; exact h e.symm
  · cases e

theorem RepS.toOnly {n b : Nat} (hh : hidN n = false) (hn : β n = some b) {x : SC} {v : Value} (hf : x.plain = true) (h : RepS β own w x v) (hi : ∀ n m b, hidN n = true → β n = some b → β m = some b → n = m) : RepS (onlyB b) (fun _ => True) w x v :=
  RepS.lend (fun m b' e => by
    unfold onlyB at e
    split at e
    · simp only [Option.some.injEq] at e; subst e; exact ⟨n, hh, hn⟩
    · cases e) hi (plain_lend hf) h

theorem RepL.toOnly {n b : Nat} (hh : hidN n = false) (hn : β n = some b) (hi : ∀ n m b, hidN n = true → β n = some b → β m = some b → n = m) {l : List SC} {cs : List Value} (hf : l.all SC.plain = true) (h : RepL β own w l cs) : RepL (onlyB b) (fun _ => True) w l cs :=
  RepL.lend (fun m b' e => by
    unfold onlyB at e
    split at e
    · simp only [Option.some.injEq] at e; subst e; exact ⟨n, hh, hn⟩
    · cases e) hi (plain_lendL hf) h

theorem argFlat_rep {n b : Nat} (hh : hidN n = false) (hn : β n = some b) (hi : ∀ n m b, hidN n = true → β n = some b → β m = some b → n = m) {d d' : D} {v : Value} (hv : RepD β own w d v) (h : argFlat d = some d') : Rep1 (onlyB b) (fun _ => True) w d' v :=
  Rep1.lend (fun m b' e => by
    unfold onlyB at e
    split at e
    · simp only [Option.some.injEq] at e; subst e; exact ⟨n, hh, hn⟩
    · cases e) hi h hv

theorem argsFlat_rep (hR : Rel w0 N s β a w) {n b : Nat} (hh : hidN n = false) (hn : β n = some b) : ∀ {l : List Operand} {ds : List D}, argsFlat s l = some ds → RepLs (onlyB b) (fun _ => True) w ds (l.map a.eval)
  | [], ds, h => by simp [argsFlat] at h; subst h; trivial
  | x :: l, ds, h => by
    simp only [argsFlat] at h
    split at h
    · rename_i d r h1 h2
      simp only [Option.some.injEq] at h
      subst h
      simp only [Option.bind_eq_some_iff] at h1
      obtain ⟨d0, h3, h4⟩ := h1
      exact ⟨argFlat_rep hh hn hR.hidInj (ev_rep hR h3) h4, argsFlat_rep hR hh hn h2⟩
    · cases h

theorem lentOf_rep (hR : Rel w0 N s β a w) {m : Nat} {l : List Operand} {q : Nat × Blk × List Operand} (h : lentOf m s l = some q) :
    ∃ b cs ty, β q.1 = some b ∧ s.m q.1 = some q.2.1 ∧ q.2.1.cells.length = m ∧ w.heap[b]? = some (.cells ⟨cs⟩ ty (0, 0)) ∧ RepL (onlyB b) (fun _ => True) w q.2.1.cells cs ∧
      l.map a.eval = .pointer (some ⟨b, 0, none⟩) :: q.2.2.map a.eval := by
  cases l with
  | nil => simp [lentOf] at h
  | cons x r =>
    simp only [lentOf] at h
    split at h
    · rename_i n off hx
      split at h
      · rename_i blk hm
        split at h
        · rename_i hlen
          simp only [Option.some.injEq] at h
          subst h
          obtain ⟨b, hb, ex⟩ := ev_rep hR hx
          obtain ⟨b', cs, ty, g1, g2, g3, g4⟩ := hR.mem n blk hm
          obtain rfl : b = b' := by rw [hb] at g1; exact Option.some.inj g1
          simp only [Bool.and_eq_true] at hlen
          exact ⟨b, cs, ty, hb, hm, Nat.eq_of_beq_eq_true hlen.1, g2, g3.toOnly (hR.seen hm) hb hR.hidInj hlen.2, by simp [ex]⟩
        · cases h
      · cases h
    · cases h

theorem Kept.only {b : Nat} {w' : World} (h : Kept ⟨w, fun k => k = b, [], pinB b⟩ w') {b' : Nat} (hb : b' < w.heap.size) (hne : b' ≠ b) : w'.heap[b']? = w.heap[b']? := h.block b' hb hne

theorem Rel.kept (hR : Rel w0 N s β a w) {n b : Nat} (hb : β n = some b) {w' : World} (hk : Kept ⟨w, fun k => k = b, [], pinB b⟩ w') : Kept w0 w' := by
  refine ⟨hk.os.trans hR.bel.os, hk.tape.trans hR.bel.tape, hk.output.trans hR.bel.output, Nat.le_trans hR.bel.size hk.size, fun j hj hx => ?_⟩
  rw [hk.only (Nat.lt_of_lt_of_le hj hR.bel.size) (fun e => ?_)]
  · exact hR.bel.block j hj hx
  · subst e
    rcases (hR.new n j hb).1 with h | h
    · omega
    · exact hx h

theorem step_kept (hR : Rel w0 N s β a w) {n b : Nat} (hn : hidN n = false) (hb : β n = some b) {w' : World} (hk : Kept ⟨w, fun k => k = b, [], pinB b⟩ w') : Step β β w w' :=
  ⟨fun k o _ hk' hn hv => (World.cell?_of_block (w := w) (hk.only hk' (fun e => hn n (by rw [show k = b from e]; exact hb)))).trans hv, hk.size, fun _ _ h => h, fun _ _ h => h, fun _ _ h => h, fun m k o hm hkm ho => (by
    rw [hk.only (heap_lt ho) (fun e => by have := hR.inj m n k hkm (by rw [show k = b from e]; exact hb); subst this; rw [hn] at hm; cases hm)]
    exact ho)⟩

theorem Rel.lent (hR : Rel w0 N s β a w) {n b : Nat} (hn : hidN n = false) (hb : β n = some b) {w' : World} (hk : Kept ⟨w, fun k => k = b, [], pinB b⟩ w') {cs : List Value} {ty : TypeId} {blk : Blk} (h1 : w'.heap[b]? = some (.cells ⟨cs⟩ ty (0, 0)))
    (h2 : RepL β (fun b => w0.heap.size ≤ b) w' blk.cells cs) (hf : flats blk.cells = true) : Rel w0 N { s with m := updM s.m n blk } β a w' where
  sz := hR.sz
  tm t d hd := let ⟨v, g1, g2⟩ := hR.tm t d hd; ⟨v, g1, g2.mono (step_kept hR hn hb hk)⟩
  mem m bk h := by
    simp only [updM_at] at h
    by_cases e : m = n
    · subst e
      simp only [if_true, Option.some.injEq] at h
      subst h
      exact ⟨b, cs, ty, hb, h1, h2, hf⟩
    · simp only [if_neg e] at h
      obtain ⟨b', cs', ty', g1, g2, g3, g4⟩ := hR.mem m bk h
      exact ⟨b', cs', ty', g1, by rw [hk.only (hR.new m b' g1).2 (fun e' => e (hR.inj m n b' g1 (by rw [e']; exact hb)))]; exact g2, g3.mono (step_kept hR hn hb hk), g4⟩
  dom m hh h := by
    simp only [updM_at] at h
    by_cases e : m = n
    · subst e; simp at h
    · simp only [if_neg e] at h; exact hR.dom m hh h
  nhid m hm := by
    simp only [updM_at]
    rw [if_neg (fun e => by subst e; rw [hn] at hm; cases hm)]
    exact hR.nhid m hm
  inj := hR.inj
  new m b' h := ⟨(hR.new m b' h).1, Nat.lt_of_lt_of_le (hR.new m b' h).2 hk.size⟩
  bel := hR.kept hb hk
  dfr := hR.dfr
  lnt := hR.lnt

theorem sound_callm (E : Env P c z) (hR : Rel w0 N s β a w) {o : Oper} {k : Call} {f : FuncId} (ho : o.op = .call k) (hf : k.callee = .value (.func f)) {m : Nat} (hlt : c.lent f = some m) {q : Nat × Blk × List Operand}
    (hq1 : lentOf m s k.args.toList = some q) {l : List D} (hl : argsFlat s q.2.2 = some l)
    (hdie : ∀ b n, c.die f q.2.1.cells l = some (b, n) → b.lb = false) {r : D × List SC × List Bool}
    (hc : c.callm f q.2.1.cells l = some r) (hcl : r.1.cleanT = true) (hcc : r.2.1.all SC.clean = true) (hq : ∀ b ∈ r.2.2, b = true) : Sound P w0 N s a w o ⟨r.1, some (q.1, ⟨r.2.1, q.2.1.ty⟩), r.2.2⟩ := by
  obtain ⟨b, cs, ty, e1, e2, e3, e4, e5, e6⟩ := lentOf_rep hR hq1
  obtain ⟨hb, hcon⟩ := E.callm f q.2.1.cells l r.1 r.2.1 r.2.2 (by rw [hlt, e3]) hdie hc hq
  intro s1 hs1
  obtain rfl : s1 = { s with m := updM s.m q.1 ⟨r.2.1, q.2.1.ty⟩ } := by
    obtain ⟨dst, op, tt, pos, af, g⟩ := o
    simp only at ho
    subst ho
    simpa [putB, isWr] using hs1.symm
  intro K Q hK
  refine wp_enter ho hf hb (R := _) (by rw [e6]; exact hcon w b cs ty _ e4 e5 (argsFlat_rep hR (hR.seen e2) e1 hl)) ?_
  rintro e w' ⟨v, cs', ty', rfl, h1, h2, h3, h4⟩
  have hlt : ∀ n b, β n = some b → b < w.heap.size := fun n b hn => (hR.new n b hn).2
  refine hK v w' ⟨β, (hR.lent (blk := ⟨r.2.1, q.2.1.ty⟩) (hR.seen e2) e1 h4 h2 (RepL.lift hlt hR.bel.size hcc h3) ?_).killO o _, RepD.lift hlt hR.bel.size hcl h1⟩
  simp only [flats, List.all_eq_true] at hcc ⊢
  intro x hx
  have := hcc x hx
  cases x <;> simp [SC.clean] at this <;> rfl

/-- behind a panic: what blocks are still known -/
structure Left (w0 : Base) (N : Nat) (c : Cfg) (s : St) (β : Nat → Option Nat) (a : Act) (w' : World) : Prop where
  ex : ∃ s1 β1, Rel w0 N s1 β1 a w' ∧ ∀ k blk, s.m k = some blk → (s1.m k = some blk ∧ β1 k = β k) ∨ ∃ f, c.lent f = some blk.cells.length

theorem die_call (E : Env P c z) (hR : Rel w0 N s β a w) {o : Oper} {k : Call} {f : FuncId} (ho : o.op = .call k) (hf : k.callee = .value (.func f)) {bv : BV} {n : Int} (hd : dieE c s f k.args.toList = some (bv, n)) (hb : bv.lb = true)
    {K : Act → World → Prop} {Q : Exit → Act → World → Prop} (hQ : ∀ w', Left w0 N c s β a w' → Q (.panic (errChain n)) a w') : o.wp P a w K Q := by
  unfold dieE at hd
  split at hd
  · cases hd
  split at hd
  · rename_i m hlt
    simp only [Option.bind_eq_some_iff] at hd
    obtain ⟨q, hq1, l, hl, hd⟩ := hd
    obtain ⟨b, cs, ty, e1, e2, e3, e4, e5, e6⟩ := lentOf_rep hR hq1
    obtain ⟨hbd, hcon⟩ := E.diem f q.2.1.cells l bv n (by rw [hlt, e3]) hd hb
    refine wp_enter ho hf hbd (R := _) (by rw [e6]; exact hcon w b cs ty _ e4 e5 (argsFlat_rep hR (hR.seen e2) e1 hl)) ?_
    rintro e w' ⟨rfl, h4⟩
    have h1 : ∀ u x, (fun u => if u = q.1 then none else β u) u = some x → β u = some x := by
      intro u x e; simp only at e; split at e
      · cases e
      · exact e
    refine hQ w' ⟨{ t := fun _ => none, m := fun u => if u = q.1 then none else s.m u }, fun u => if u = q.1 then none else β u, ?_, fun u blk hu => ?_⟩
    · refine ⟨hR.sz, fun t d h => (nomatch h), fun u blk hu => ?_, fun u hh hu => ?_, fun u hu => ?_, fun u u' x h h' => hR.inj u u' x (h1 u x h) (h1 u' x h'), fun u x h => ?_, hR.kept e1 h4, hR.dfr, fun n b hn hb b' h' => hR.lnt n b hn hb b' (h1 _ _ h')⟩
      · simp only at hu
        split at hu
        · cases hu
        · rename_i hne
          obtain ⟨b', cs', ty', g1, g2, g3, g4⟩ := hR.mem u blk hu
          refine ⟨b', cs', ty', by simp only [if_neg hne]; exact g1, by rw [h4.only (hR.new u b' g1).2 (fun e' => hne (hR.inj u q.1 b' g1 (by rw [e']; exact e1)))]; exact g2, ?_, g4⟩
          refine RepL.restrict h1 (fun u hu => if_neg fun e => by subst e; rw [hR.seen e2] at hu; cases hu) (fun x hx j hj => ?_) (g3.mono (step_kept hR (hR.seen e2) e1 h4))
          have := List.all_eq_true.1 g4 x hx
          have hnil : x.names = [] := by cases x <;> simp [SC.flat] at this <;> rfl
          rw [hnil] at hj
          cases hj
      · simp only at hu ⊢
        split
        · rfl
        · rename_i hne
          rw [if_neg hne] at hu
          exact hR.dom u hh hu
      · simp only
        split
        · rfl
        · exact hR.nhid u hu
      · have := hR.new u x (h1 u x h)
        exact ⟨this.1, Nat.lt_of_lt_of_le this.2 h4.size⟩
    · by_cases hne : u = q.1
      · subst hne
        rw [e2] at hu
        simp only [Option.some.injEq] at hu
        subst hu
        exact .inr ⟨f, by rw [hlt, e3]⟩
      · exact .inl ⟨by simp only [if_neg hne]; exact hu, by simp only [if_neg hne]⟩
  · rename_i hlt
    simp only [Option.bind_eq_some_iff] at hd
    obtain ⟨l, hl, hd⟩ := hd
    obtain ⟨hbd, hcon⟩ := E.die f l bv n hlt hd hb
    refine wp_enter ho hf hbd (hcon w _ (argsOf_rep hR hl)) ?_
    rintro e w' ⟨rfl, h4⟩
    exact hQ w' ⟨s, β, hR.below h4, fun u blk hu => .inl ⟨hu, rfl⟩⟩
end
end Go.Adit

namespace Go.Adit
open Go.RowKit

section
variable {P : Program} {w0 : Base} {N : Nat} {s : St} {β : Nat → Option Nat} {a : Act} {w : World} {c : Cfg} {z : Zs} {own : Nat → Prop}

theorem foldl_setAt (off : Nat) : ∀ (vs : List Value) (k : Nat) (cells : List Value), off + k + vs.length ≤ cells.length →
    (vs.zipIdx k).foldl (fun (cs : Array Value) x => cs.setIfInBounds (off + x.2) x.1) ⟨cells⟩ = ⟨cells.take (off + k) ++ (vs ++ cells.drop (off + k + vs.length))⟩
  | [], k, cells, _ => by simp
  | v :: vs, k, cells, h => by
    simp only [List.zipIdx_cons, List.foldl_cons]
    have h1 : (Array.mk cells).setIfInBounds (off + k) v = ⟨cells.set (off + k) v⟩ := by
      apply Array.ext'; simp
    have hi : off + k < cells.length := by simp at h; omega
    rw [h1, foldl_setAt off vs (k + 1) (cells.set (off + k) v) (by simp at h ⊢; omega)]
    congr 1
    rw [show off + (k + 1) = off + k + 1 by omega, List.drop_set_of_lt (by omega)]
    rw [List.take_add_one, List.take_set_of_le (by omega), List.getElem?_set_self hi]
    simp [show off + k + 1 + vs.length = off + k + (vs.length + 1) by omega]

theorem fill_rep (hR : Rel w0 N s β a w) {place : Nat → Option (Nat × Nat)} : ∀ {ps : List (Nat × Operand)} {l l' : List SC} {cs : List Value},
    RepL β (fun b => w0.heap.size ≤ b) w l cs → fillParts place s l ps = some l' →
    ∃ cs', Instr.fill place ⟨cs⟩ (ps.map fun p => (p.1, a.eval p.2)) = some ⟨cs'⟩ ∧ RepL β (fun b => w0.heap.size ≤ b) w l' cs'
  | [], l, l', cs, h, hf => by simp [fillParts] at hf; subst hf; exact ⟨cs, rfl, h⟩
  | (i, x) :: r, l, l', cs, h, hf => by
    simp only [fillParts] at hf
    split at hf
    · rename_i off size ds h1 h2
      split at hf
      · rename_i h3
        simp only [Option.bind_eq_some_iff] at hf h2
        obtain ⟨l1, h4, h5⟩ := hf
        obtain ⟨d, h6, h7⟩ := h2
        have ry := cellsOf_rep (ev_rep hR h6) h7
        have hlen := ry.length
        obtain ⟨g1, g2⟩ := RepL.set off h ry h4
        obtain ⟨cs', k1, k2⟩ := fill_rep hR g2 h5
        refine ⟨cs', ?_, k2⟩
        have h8 : ds.length = size := Nat.eq_of_beq_eq_true h3
        have h9 : (a.eval x).cells.size = size := by rw [← h8, hlen]; simp
        simp only [List.map_cons, Instr.fill, h1, h9]
        have h10 : ¬ (size ≠ size || decide (off + size > (Array.mk cs).size)) = true := by
          have : (a.eval x).cells.toList.length = size := by simpa using h9
          rw [this] at g1
          simp
          omega
        rw [if_neg h10]
        have h11 : ((a.eval x).cells.zipIdx.foldl (fun (cs : Array Value) (x : Value × Nat) => cs.setIfInBounds (off + x.2) x.1) (Array.mk cs)) = Array.mk (cs.take off ++ ((a.eval x).cells.toList ++ cs.drop (off + (a.eval x).cells.toList.length))) := by
          rw [← Array.foldl_toList, Array.toList_zipIdx]
          exact foldl_setAt off _ 0 cs (by simpa using g1)
        rw [← k1, ← h11]
      · cases hf
    · cases hf

theorem places_of (E : Env P c z) : ∀ {Fs : List Field} {fs : List (Nat × Nat)}, Fs.map (fun f => (f.offset, f.type)) = fs → (fs.all fun f => (c.ty f.2).known) = true →
    Fs.mapM (fun f => (P.info? f.type).map fun i => (f.offset, i.size)) = some (fs.map fun f => (f.1, (c.ty f.2).size))
  | [], fs, h, _ => by simp at h; subst h; simp
  | F :: Fs, fs, h, hk => by
    simp only [List.map_cons] at h
    subst h
    simp only [List.all_cons, Bool.and_eq_true] at hk
    obtain ⟨i, h1, h2⟩ := size_of E hk.1
    have ih := places_of E rfl hk.2
    simp [List.mapM_cons, h1, h2, ih]

theorem nthF_eq : ∀ (fs : List (Nat × Nat)) (i : Nat), nthF fs i = fs[i]?
  | [], i => by simp [nthF]
  | x :: _, 0 => by simp [nthF]
  | _ :: l, n + 1 => by simpa [nthF] using nthF_eq l n

theorem parts_map (ps : Array (Nat × Operand)) : (ps.map fun (p : Nat × Operand) => (p.1, a.eval p.2)).toList = ps.toList.map fun p => (p.1, a.eval p.2) := by simp

theorem sound_build (E : Env P c z) (hR : Rel w0 N s β a w) {o : Oper} {t : TypeId} {ps : Array (Nat × Operand)} (ho : o.op = .build t ps) {l r : List SC} (hz : zeroCells c z.ext z.strs z.ints z.nilv 20 t = some l)
    (h : (∃ fs n, c.ty t = .struct fs n ∧ (fs.all fun f => (c.ty f.2).known) = true ∧ fillParts (fun i => (nthF fs i).map fun f => (f.1, (c.ty f.2).size)) s l ps.toList = some r) ∨
      (∃ n e m, c.ty t = .arr n e m ∧ (c.ty e).known = true ∧ fillParts (fun i => some (i * (c.ty e).size, (c.ty e).size)) s l ps.toList = some r)) : Sound P w0 N s a w o ⟨.agg r, none, []⟩ := by
  obtain ⟨i, v, h1, h2, h3, h4⟩ := zero_rep E hz β (fun b => w0.heap.size ≤ b) w
  have key : ∃ cs', P.built t (ps.map fun (p : Nat × Operand) => (p.1, a.eval p.2)).toList = some ⟨cs'⟩ ∧ RepL β (fun b => w0.heap.size ≤ b) w r cs' := by
    rw [parts_map]
    rcases h with ⟨fs, n, g1, g2, g3⟩ | ⟨n, e, m, g1, g2, g3⟩
    · have e1 := E.ty t; rw [g1] at e1
      obtain ⟨Fs, e2, e3, _⟩ := e1
      obtain ⟨cs', k1, k2⟩ := fill_rep hR h3 g3
      refine ⟨cs', ?_, k2⟩
      unfold Program.built
      simp only [h1, e2, h2, places_of E e3 g2]
      rw [← k1]
      congr 1
      funext i
      simp [nthF_eq]
    · have e1 := E.ty t; rw [g1] at e1
      obtain ⟨cs', k1, k2⟩ := fill_rep hR h3 g3
      obtain ⟨ie, m1, m2⟩ := size_of E g2
      refine ⟨cs', ?_, k2⟩
      unfold Program.built
      simp only [h1, e1.1, h2, m1, m2]
      exact k1
  obtain ⟨cs', k1, k2⟩ := key
  refine Sound.pure hR (v := .agg ⟨cs'⟩) ?_ ⟨cs', rfl, k2⟩
  have := run_build w t (ps.map fun (p : Nat × Operand) => (p.1, a.eval p.2)) ⟨cs'⟩ k1
  simp only [execOp, ho]
  simp only [Sem.run_bind]
  rw [show (fun (x : Nat × Operand) => match x with | (i, x) => (i, a.eval x)) = fun (p : Nat × Operand) => (p.1, a.eval p.2) from rfl, this]
  rfl

theorem RepL.ofGet : ∀ {l : List SC} {cs : List Value}, l.length = cs.length → (∀ (i : Nat) x, l[i]? = some x → ∃ v, cs[i]? = some v ∧ RepS β own w x v) → RepL β own w l cs
  | [], [], _, _ => trivial
  | x :: l, v :: cs, h, hg => by
    obtain ⟨u, h1, h2⟩ := hg 0 x (by simp)
    simp at h1
    subst h1
    exact ⟨h2, RepL.ofGet (by simpa using h) fun i y hy => by
      obtain ⟨u, k1, k2⟩ := hg (i + 1) y (by simpa using hy)
      exact ⟨u, by simpa using k1, k2⟩⟩
  | [], _ :: _, h, _ => by simp at h
  | _ :: _, [], h, _ => by simp at h

theorem repl_length (l : List SC) : ∀ n, (repl n l).length = n * l.length
  | 0 => by simp [repl]
  | n + 1 => by simp [repl, repl_length l n, Nat.succ_mul]; omega

theorem repl_get (l : List SC) : ∀ (n i : Nat), i < n * l.length → (repl n l)[i]? = l[i % l.length]?
  | 0, i, h => by simp at h
  | n + 1, i, h => by
    simp only [repl]
    by_cases hi : i < l.length
    · rw [List.getElem?_append_left hi, Nat.mod_eq_of_lt hi]
    · rw [List.getElem?_append_right (by omega), repl_get l n (i - l.length) (by rw [Nat.succ_mul] at h; omega)]
      congr 1
      rw [← Nat.mod_eq_sub_mod (by omega)]

theorem sound_buildSlice (E : Env P c z) (hR : Rel w0 N s β a w) {o : Oper} {t e len d : Nat} {ps : Array (Nat × Operand)} (ho : o.op = .buildSlice t len ps) (h : c.ty t = .slice e) (hk : (c.ty e).known = true)
    {zl r : List SC} (hz : zeroCells c z.ext z.strs z.ints z.nilv 20 e = some zl) (hs : zl.length = (c.ty e).size) (hs0 : 0 < (c.ty e).size) (hb : len * (c.ty e).size ≤ 65536)
    (hf : fillParts (fun i => some (i * (c.ty e).size, (c.ty e).size)) s (repl len zl) ps.toList = some r) (hfl : flats r = true) :
    Sound P w0 N s a w o ⟨.s (.lsl d 0 len len), some (d, ⟨r, e⟩), []⟩ := by
  obtain ⟨i, v, h1, h2, h3, h4⟩ := zero_rep E hz β (fun b => w0.heap.size ≤ b) w
  have e1 := E.ty t; rw [h] at e1
  have hvl : v.cells.size = (c.ty e).size := by rw [← hs, h3.length]; simp
  have hrow : RepL β (fun b => w0.heap.size ≤ b) w (repl len zl) ((Array.range (len * (c.ty e).size)).map (fun j => v.cells[j % v.cells.size]!)).toList := by
    refine RepL.ofGet (by simp [repl_length, hs]) fun j x hx => ?_
    have hj : j < len * zl.length := by
      have := (List.getElem?_eq_some_iff.1 hx).1
      rwa [repl_length] at this
    rw [repl_get zl len j hj] at hx
    obtain ⟨u, g1, g2⟩ := h3.get hx
    refine ⟨u, ?_, g2⟩
    rw [hs] at hj g1
    have h5 : j % v.cells.size < v.cells.size := Nat.mod_lt _ (by omega)
    have h6 : v.cells[j % v.cells.size]? = some u := by rw [hvl]; simpa using g1
    have h7 : v.cells[j % v.cells.size]! = u := by
      rw [Array.getElem!_eq_getD, Array.getD_eq_getD_getElem?, h6]; rfl
    have h8 : ((Array.range (len * (c.ty e).size)).map (fun j => v.cells[j % v.cells.size]!)).toList[j]? = some (v.cells[j % v.cells.size]!) := by simp [hj]
    rw [h8, h7]
  obtain ⟨cs', k1, k2⟩ := fill_rep hR hrow hf
  refine Sound.new hR (by rw [ho]; rfl) (cs := cs') (ty := e) k2 hfl (v := .slice (some ⟨w.heap.size, 0, none⟩) len len) ?_ ?_
  · have hfill : ∀ q : Array Value, (len * (c.ty e).size = 0 ∨ q = v.cells) → Instr.fill (fun i => some (i * (c.ty e).size, (c.ty e).size)) ((Array.range (len * (c.ty e).size)).map (fun j => q[j % q.size]!)) (ps.map fun (p : Nat × Operand) => (p.1, a.eval p.2)).toList = some ⟨cs'⟩ := by
      rintro q hq
      rw [show (Array.range (len * (c.ty e).size)).map (fun j => q[j % q.size]!) = (Array.range (len * (c.ty e).size)).map (fun j => v.cells[j % v.cells.size]!) by
        rcases hq with hq | rfl
        · simp [hq]
        · rfl, parts_map]
      exact k1
    have hlt : ¬ len * (c.ty e).size > 2 ^ 24 := by
      have : (2 : Nat) ^ 24 = 16777216 := rfl
      omega
    simp only [execOp, ho, Instr.buildSlice, Sem.run_bind, run_underlying e1.1, Result.andThen_ok, run_sizeOf E hk, if_neg hlt, Sem.run_pure]
    rw [show (fun (x : Nat × Operand) => match x with | (i, x) => (i, a.eval x)) = fun (p : Nat × Operand) => (p.1, a.eval p.2) from rfl]
    by_cases h0 : len * (c.ty e).size = 0
    · simp only [if_pos h0, Sem.run_bind, Sem.run_pure, Result.andThen_ok]
      rw [hfill #[] (.inl h0)]
      simp [newRow]
    · simp only [if_neg h0, Sem.run_bind, Sem.run_pure, Result.andThen_ok, run_zeroValue h1 h2]
      rw [hfill v.cells (.inr rfl)]
      simp [newRow]
  · intro β' hb'
    refine ⟨_, hb', rfl, ?_⟩
    have : len ≤ len * (c.ty e).size := Nat.le_mul_of_pos_right len hs0
    unfold imax
    omega
end
end Go.Adit

namespace Go.Adit
open Go.RowKit

section
variable {P : Program} {w0 : Base} {N : Nat} {s : St} {β : Nat → Option Nat} {a : Act} {w : World} {c : Cfg} {z : Zs} {own : Nat → Prop}

/-- nothing is appended -/
theorem run_append_none {t ty e : TypeId} {i : TypeInfo} {ao : Option Go.Addr} {k : Nat} {base size n : Nat} {v : Value} {xs : List Value} (ht : P.underlying t = some (.slice e)) (hi : P.info? e = some i)
    (hown : w.ownsRow base e size v n xs) : (Builtin.append_ #[t, t] ty #[v, .slice ao 0 k]).run P w = .ok v w := by
  have hf : (Builtin.firstCells i.size 0 (.slice ao 0 k)).run P w = .ok #[] w := by
    cases ao with
    | none => simp [Builtin.firstCells]
    | some b => simp [Builtin.firstCells, loadCells, loadCellsFrom]
  rcases hown.2 with ⟨rfl, rfl⟩ | ⟨g, cap, cur, rfl, _, _, hnc, _⟩
  · simp [Builtin.append_, run_underlying ht, sizeOf, typeInfo, hi, Builtin.lenOf, hf]
  · simp [Builtin.append_, run_underlying ht, sizeOf, typeInfo, hi, Builtin.lenOf, hf, hnc, storeCells]

/-- what an append leaves: the slice, longer; other blocks as they were -/
def Appended (P : Program) (w : World) (base : Nat) (ts : Array TypeId) (ty e : TypeId) (size n m : Nat) (v x : Value) (xs : List Value) : Prop :=
  ∃ v' w', (Builtin.append_ ts ty #[v, x]).run P w = .ok v' w' ∧ w'.ownsRow base e size v' (n + m) xs ∧ w.grownBy w' v.ownBlock ∧ (v'.ownBlock = v.ownBlock ∨ v'.ownBlock = some w.heap.size)

theorem append_list {t ty e : TypeId} {i : TypeInfo} {zv : Value} {base : Nat} {gl gl2 : GL} {v x : Value} {A : Nat → Prop} (ht : P.underlying t = some (.slice e)) (hi : P.info? e = some i) (hz : i.zero = some zv)
    (hs : i.size = gl.esz) (hzs : zv.cells.size = gl.esz) (hb : i.bytes ≤ 4096) (hown : w.ownsRow base e gl.esz v gl.len gl.cells) (hbase : base ≤ w.heap.size) (hx : ListAt w A gl2 x) (he : gl2.esz = gl.esz) (hfew : gl.len + gl2.len ≤ 34359738368) :
    Appended P w base #[t, t] ty e gl.esz gl.len gl2.len v x (gl.cells ++ gl2.cells) := by
  obtain ⟨h1, h2, ao, cap, rfl, h3⟩ := hx
  have hpos : 0 < gl.esz := by cases gl <;> simp [GL.esz]
  by_cases h0 : gl2.len = 0
  · have hc : gl2.cells = [] := List.eq_nil_of_length_eq_zero (by rw [cells_len, h0, Nat.zero_mul])
    refine ⟨v, w, ?_, ?_, World.grownBy.refl _ _, .inl rfl⟩
    · rw [h0]
      exact run_append_none ht hi hown
    · rw [hc, List.append_nil, h0, Nat.add_zero]; exact hown
  · obtain ⟨b, off, rfl, h4, _, h5⟩ := h3.resolve_left h0
    have hmul : (gl.len + gl2.len) * i.bytes ≤ 34359738368 * 4096 := Nat.mul_le_mul hfew hb
    obtain ⟨v', w', r1, r2, r3, _, r4⟩ := run_append_own_at (P := P) w base t ty e i zv gl.esz i.bytes ht hi hz hs rfl hzs hpos v gl.len gl.cells hown ⟨b, off, none⟩ gl2.len cap gl2.cells
      (by rw [cells_len, he]) (fun j u hu => by rw [addr_add]; exact h5 j u hu) (cells_one gl2) (by unfold maxLen; omega) (by omega) hbase
    exact ⟨v', w', r1, r2, r3, r4⟩

theorem strCells_eq (b : List UInt8) : Lib.strCells ⟨⟨b⟩⟩ = (GL.bytes b).cells := by
  simp [Lib.strCells, GL.cells]

theorem append_str {t u ty e : TypeId} {i : TypeInfo} {base : Nat} {l b : List UInt8} {v : Value} (ht : P.underlying t = some (.slice e)) (hu : P.underlying u = some .string) (hi : P.info? e = some i) (hz : i.zero = some (.int .u8 0))
    (hs : i.size = 1) (hb : i.bytes = 1) (hown : w.ownsRow base e 1 v l.length (GL.bytes l).cells) (hbase : base ≤ w.heap.size) (hfew : l.length + b.length ≤ 34359738368) :
    Appended P w base #[t, u] ty e 1 l.length b.length v (.string ⟨⟨b⟩⟩) ((GL.bytes l).cells ++ (GL.bytes b).cells) := by
  have hsz : (ByteArray.mk ⟨b⟩).size = b.length := rfl
  rcases hown.2 with ⟨rfl, h0⟩ | ⟨g, cap, cur, rfl, hbg, hg, hnc, hcm, hcs, htake⟩
  · -- base at the heap's end: what owns it is new
    have hown' : w.ownsRow w.heap.size e 1 (.slice none 0 0) l.length (GL.bytes l).cells := ⟨hown.1, .inl ⟨rfl, h0⟩⟩
    obtain ⟨v', w', r1, r2, r3, r4⟩ := Lib.run_append_own_string (P := P) w w.heap.size t u ty e i ht hu hi hz hs hb (.slice none 0 0) l.length _ hown' ⟨⟨b⟩⟩ (by rw [hsz]; unfold maxLen; omega) (by rw [hsz]; omega) (Nat.le_refl _)
    rw [hsz, strCells_eq] at r2
    refine ⟨v', w', r1, ⟨r2.1, r2.2.imp id fun ⟨g, cap, cur, h1, h2, h3⟩ => ⟨g, cap, cur, h1, Nat.le_trans hbase h2, h3⟩⟩, r3, ?_⟩
    rcases r2.2 with ⟨rfl, _⟩ | ⟨g, cap, cur, rfl, k1, k2, k3⟩
    · exact .inl rfl
    · right
      by_cases hb0 : b.length = 0
      · exact absurd (r4.2 ⟨rfl, hb0⟩) (by simp)
      · have hr := run_append_nil_string (P := P) w t u ty e i (.int .u8 0) ht hu hi hz ⟨⟨b⟩⟩ (by rw [hsz]; omega) (by rw [hsz]; omega) (by rw [hb, hsz]; omega)
        rw [hr] at r1
        simp only [Result.ok.injEq, Value.slice.injEq, Option.some.injEq, Addr.mk.injEq] at r1
        rw [← r1.1.1.1]; rfl
  · by_cases hroom : l.length + b.length ≤ cap
    · have hcs' : cur.size = cap := by simpa using hcs
      have hr := Lib.run_append_room_string (P := P) w t u ty e i ht hu hi hs g l.length cap cur hg ⟨⟨b⟩⟩ hroom (by rw [hsz]; omega)
      obtain ⟨v', w', r1, r2, r3, _⟩ := Lib.run_append_own_string (P := P) w base t u ty e i ht hu hi hz hs hb _ l.length _ hown ⟨⟨b⟩⟩ (by rw [hsz]; unfold maxLen; omega) (by rw [hsz]; omega) hbase
      rw [hsz, strCells_eq] at r2
      refine ⟨v', w', r1, r2, r3, .inl ?_⟩
      rw [hr] at r1
      simp only [Result.ok.injEq] at r1
      rw [← r1.1]; rfl
    · have holds : ∀ j u, (GL.bytes l).cells[j]? = some u → w.cell? ((⟨g, 0, none⟩ : Go.Addr).add j) = some u := hown.cells (g := g) rfl
      have hr := Lib.run_append_grow_string (P := P) w t u ty e i (.int .u8 0) ht hu hi hz ⟨g, 0, none⟩ l.length cap (GL.bytes l).cells (by rw [hs]; exact hown.1) holds ⟨⟨b⟩⟩ (by rw [hsz]; omega) (by rw [hsz]; omega)
        (by rw [hb]; exact growslice_fits (by rw [hsz]; omega) (by rw [hsz]; omega))
      obtain ⟨v', w', r1, r2, r3, _⟩ := Lib.run_append_own_string (P := P) w base t u ty e i ht hu hi hz hs hb _ l.length _ hown ⟨⟨b⟩⟩ (by rw [hsz]; unfold maxLen; omega) (by rw [hsz]; omega) hbase
      rw [hsz, strCells_eq] at r2
      refine ⟨v', w', r1, r2, r3, .inr ?_⟩
      rw [hr] at r1
      simp only [Result.ok.injEq] at r1
      rw [← r1.1]; rfl
end
end Go.Adit

namespace Go.Adit
open Go.RowKit

section
variable {P : Program} {w0 : Base} {N : Nat} {s : St} {β : Nat → Option Nat} {a : Act} {w w' : World} {c : Cfg} {z : Zs} {own : Nat → Prop}

def reB (β : Nat → Option Nat) (n : Nat) (ob : Option Nat) : Nat → Option Nat := fun u => if u = n then ob else β u

/-- an append's world, to one who looks at other blocks -/
structure Grew (β : Nat → Option Nat) (n : Nat) (v v' : Value) (w w' : World) : Prop where
  hid : hidN n = true
  ob : ∀ b, v.ownBlock = some b → β n = some b
  new : v'.ownBlock = v.ownBlock ∨ v'.ownBlock = some w.heap.size
  grown : w.grownBy w' v.ownBlock
  inj : ∀ m m' b, β m = some b → β m' = some b → m = m'
  lt : ∀ m b, β m = some b → b < w.heap.size

theorem Grew.keep {n : Nat} {v v' : Value} (h : Grew β n v v' w w') {b : Nat} (hb : b < w.heap.size) (hn : β n ≠ some b) : w'.heap[b]? = w.heap[b]? :=
  h.grown.block b hb fun e => hn (h.ob b e.symm)

theorem Grew.cell {n : Nat} {v v' : Value} (h : Grew β n v v' w w') {b o : Nat} (hb : b < w.heap.size) (hn : β n ≠ some b) {u : Value} (hu : w.cell? ⟨b, o, none⟩ = some u) : w'.cell? ⟨b, o, none⟩ = some u :=
  (World.cell?_of_block (w := w) (h.keep hb hn)).trans hu

theorem Grew.far {n : Nat} {v v' : Value} (h : Grew β n v v' w w') {b : Nat} (hb : b < w.heap.size) (hn : ∀ m, β m ≠ some b) : ∀ m, reB β n v'.ownBlock m ≠ some b := by
  intro m e
  unfold reB at e
  split at e
  · rcases h.new with h1 | h1
    · rw [h1] at e; exact hn n (h.ob b e)
    · rw [h1] at e; simp only [Option.some.injEq] at e; omega
  · exact hn m e

theorem Grew.other {n m : Nat} {v v' : Value} (h : Grew β n v v' w w') (hm : Nat.beq m n = false) : reB β n v'.ownBlock m = β m := by
  unfold reB
  rw [if_neg fun e => by subst e; simp at hm]

theorem Grew.ne {n m b : Nat} {v v' : Value} (h : Grew β n v v' w w') (hm : Nat.beq m n = false) (hb : β m = some b) : β n ≠ some b := by
  intro e
  have := h.inj m n b hb e
  subst this
  simp at hm

theorem RepS.grown {n : Nat} {v v' : Value} (h : Grew β n v v' w w') {x : SC} (hx : x.hasG n = false) {u : Value} (hr : RepS β own w x u) : RepS (reB β n v'.ownBlock) own w' x u := by
  cases x <;> simp only [SC.hasG] at hx <;> simp only [RepS] at hr ⊢
  case bool | int | byte | str | fn | nilp | nils | junk => exact hr
  case eptr | sptr | iptr => cases hx
  case exts l o =>
    obtain ⟨a, cap, e1, e2, e3⟩ := hr
    refine ⟨a, cap, e1, e2, e3.imp id ?_⟩
    rintro ⟨b, off, f1, f2, ⟨f3, f4⟩, f5⟩
    refine ⟨b, off, f1, Nat.lt_of_lt_of_le f2 h.grown.size, ⟨h.far f2 f3, f4⟩, fun i e he => ?_⟩
    obtain ⟨g1, g2, g3, g4⟩ := f5 i e he
    exact ⟨h.cell f2 (f3 n) g1, g2, h.cell f2 (f3 n) g3, g4⟩
  case strs l | ints l =>
    obtain ⟨a, cap, e1, e2, e3⟩ := hr
    refine ⟨a, cap, e1, e2, e3.imp id ?_⟩
    rintro ⟨b, off, f1, f2, f3, f5⟩
    refine ⟨b, off, f1, Nat.lt_of_lt_of_le f2 h.grown.size, h.far f2 f3, fun i e he => ?_⟩
    obtain ⟨g1, g2⟩ := f5 i e he
    exact ⟨h.cell f2 (f3 n) g1, g2⟩
  case ptr m off => obtain ⟨b, e1, e2⟩ := hr; exact ⟨b, by rw [h.other hx]; exact e1, e2⟩
  case lsl m off len cap => obtain ⟨b, e1, e2⟩ := hr; exact ⟨b, by rw [h.other hx]; exact e1, e2⟩
  case gs m e gl =>
    obtain ⟨h1, h2, h3, h4⟩ := hr
    refine ⟨h1, h2, ownsRow_keep h3 (fun b hb o ho => ?_), fun b hb => ⟨(h4 b hb).1, by rw [h.other hx]; exact (h4 b hb).2.1, (h4 b hb).2.2⟩⟩
    rw [h.keep (heap_lt ho) (h.ne hx (h4 b hb).2.1)]; exact ho
  case gv m gl =>
    obtain ⟨h1, h2, a, cap, e1, e2⟩ := hr
    refine ⟨h1, h2, a, cap, e1, e2.imp id ?_⟩
    rintro ⟨b, off, f1, f2, ⟨g1, g2, g3⟩, f4⟩
    exact ⟨b, off, f1, Nat.lt_of_lt_of_le f2 h.grown.size, ⟨g1, by rw [h.other hx]; exact g2, g3⟩, fun j u hu => h.cell f2 (h.ne hx g2) (f4 j u hu)⟩
  case own gl =>
    obtain ⟨h1, h2, a, cap, e1, e2⟩ := hr
    refine ⟨h1, h2, a, cap, e1, e2.imp id ?_⟩
    rintro ⟨b, off, f1, f2, ⟨g1, g2⟩, f4⟩
    exact ⟨b, off, f1, Nat.lt_of_lt_of_le f2 h.grown.size, ⟨h.far f2 g1, g2⟩, fun j u hu => h.cell f2 (g1 n) (f4 j u hu)⟩

theorem RepL.grown {n : Nat} {v v' : Value} (h : Grew β n v v' w w') : ∀ {l : List SC} {us : List Value}, (∀ x ∈ l, x.hasG n = false) → RepL β own w l us → RepL (reB β n v'.ownBlock) own w' l us
  | [], [], _, _ => trivial
  | x :: l, u :: us, hx, ⟨h1, h2⟩ => ⟨h1.grown h (hx x (.head _)), RepL.grown h (fun y hy => hx y (.tail _ hy)) h2⟩
  | [], _ :: _, _, hr => hr.elim
  | _ :: _, [], _, hr => hr.elim

theorem RepL.grownKill {n : Nat} {v v' : Value} (h : Grew β n v v' w w') : ∀ {l : List SC} {us : List Value}, RepL β own w l us → RepL (reB β n v'.ownBlock) own w' (l.map (SC.kill n)) us
  | [], [], _ => trivial
  | x :: l, u :: us, ⟨h1, h2⟩ => ⟨by
      unfold SC.kill
      split
      · exact ⟨h1.notAgg, h1.one⟩
      · rename_i hx; exact h1.grown h hx, RepL.grownKill h h2⟩
  | [], _ :: _, hr => hr.elim
  | _ :: _, [], hr => hr.elim

theorem Rep1.grown {n : Nat} {v v' : Value} (h : Grew β n v v' w w') {d : D} (hd : d.hasG1 n = false) {u : Value} (hr : Rep1 β own w d u) : Rep1 (reB β n v'.ownBlock) own w' d u := by
  cases d with
  | s x => exact RepS.grown h hd hr
  | agg l =>
    obtain ⟨cs, e1, e2⟩ := hr
    exact ⟨cs, e1, e2.grown h fun x hx => by simp only [D.hasG1, List.any_eq_false] at hd; simpa using hd x hx⟩
  | tup l => exact hr.elim

theorem RepLs.grown {n : Nat} {v v' : Value} (h : Grew β n v v' w w') : ∀ {l : List D} {us : List Value}, (∀ x ∈ l, x.hasG1 n = false) → RepLs β own w l us → RepLs (reB β n v'.ownBlock) own w' l us
  | [], [], _, _ => trivial
  | x :: l, u :: us, hx, ⟨h1, h2⟩ => ⟨h1.grown h (hx x (.head _)), RepLs.grown h (fun y hy => hx y (.tail _ hy)) h2⟩
  | [], _ :: _, _, hr => hr.elim
  | _ :: _, [], _, hr => hr.elim

theorem RepD.grown {n : Nat} {v v' : Value} (h : Grew β n v v' w w') {d : D} (hd : d.hasG n = false) {u : Value} (hr : RepD β own w d u) : RepD (reB β n v'.ownBlock) own w' d u := by
  cases d with
  | s x => exact RepS.grown h hd hr
  | agg l => exact Rep1.grown h (d := .agg l) hd hr
  | tup l =>
    obtain ⟨vs, e1, e2⟩ := hr
    exact ⟨vs, e1, e2.grown h fun x hx => by simp only [D.hasG, List.any_eq_false] at hd; simpa using hd x hx⟩

theorem Rel.grown (hR : Rel w0 N s β a w) {n : Nat} {v v' : Value} (h : Grew β n v v' w w') (ho : ∀ b, v.ownBlock = some b → w0.heap.size ≤ b) (hl : ∀ b, v'.ownBlock = some b → w0.heap.size ≤ b ∧ b < w'.heap.size) :
    Rel w0 N (Adit.killS n s) (reB β n v'.ownBlock) a w' where
  sz := hR.sz
  tm t d hd := by
    obtain ⟨h1, h2⟩ := killS_t.1 hd
    obtain ⟨u, g1, g2⟩ := hR.tm t d h1
    exact ⟨u, g1, g2.grown h h2⟩
  mem m bk hm := by
    rw [killS_m, Option.map_eq_some_iff] at hm
    obtain ⟨b0, h1, rfl⟩ := hm
    obtain ⟨b, cs, ty, e1, e2, e3, e4⟩ := hR.mem m b0 h1
    have hne : Nat.beq m n = false := by
      rw [Bool.eq_false_iff]
      intro e
      have := Nat.eq_of_beq_eq_true e
      subst this
      have := hR.seen h1
      rw [h.hid] at this; cases this
    exact ⟨b, cs, ty, by rw [h.other hne]; exact e1, by rw [h.keep (heap_lt e2) (h.ne hne e1)]; exact e2, e3.grownKill h, flats_kill e4⟩
  dom m hh hm := by
    rw [killS_m, Option.map_eq_none_iff] at hm
    unfold reB
    rw [if_neg fun e => by subst e; rw [h.hid] at hh; cases hh]
    exact hR.dom m hh hm
  nhid m hm := by rw [killS_m, hR.nhid m hm]; rfl
  inj m m' b h1 h2 := by
    unfold reB at h1 h2
    have key : ∀ k, β k = some b → v'.ownBlock = some b → k = n := by
      intro k hk hb
      rcases h.new with e | e
      · rw [e] at hb; exact h.inj k n b hk (h.ob b hb)
      · rw [e] at hb
        simp only [Option.some.injEq] at hb
        have := h.lt k b hk
        omega
    split at h1 <;> split at h2
    · rename_i e1 e2; rw [e1, e2]
    · rename_i e1 e2; rw [e1]; exact (key m' h2 h1).symm
    · rename_i e1 e2; rw [e2]; exact key m h1 h2
    · exact hR.inj m m' b h1 h2
  new m b hm := by
    unfold reB at hm
    split at hm
    · exact ⟨.inl (hl b hm).1, (hl b hm).2⟩
    · exact ⟨(hR.new m b hm).1, Nat.lt_of_lt_of_le (hR.new m b hm).2 h.grown.size⟩
  bel := by
    have k := hR.bel
    refine ⟨h.grown.os.trans k.os, h.grown.tape.trans k.tape, h.grown.output.trans k.output, Nat.le_trans k.size h.grown.size, fun j hj hx => ?_⟩
    rw [h.grown.block j (Nat.lt_of_lt_of_le hj k.size) (fun e => by have := ho j e.symm; omega)]
    exact k.block j hj hx
  dfr := hR.dfr
  lnt m b hm hb b' h' := by
    unfold reB at h'
    split at h'
    · rename_i e
      subst e
      have := h.hid
      unfold hidN at this
      split at this
      · rw [Nat.blt_eq] at this; omega
      · cases this
    · exact hR.lnt m b hm hb b' h'

theorem lenI_eq (gl : GL) : gl.lenI = (gl.len : Int) := by cases gl <;> rfl

theorem cat_spec {gl gl2 r : GL} (h : gl.cat gl2 = some r) : r.cells = gl.cells ++ gl2.cells ∧ r.len = gl.len + gl2.len ∧ r.esz = gl.esz ∧ gl2.esz = gl.esz ∧ (gl.ok → gl2.ok → r.ok) := by
  cases gl <;> cases gl2 <;> simp [GL.cat] at h <;> subst h
  · refine ⟨by simp [GL.cells, lxCat], by simp [GL.len, lxCat], rfl, rfl, fun h1 h2 e he => ?_⟩
    rcases List.mem_append.1 he with he | he
    · exact h1 e he
    · exact h2 e he
  · refine ⟨by simp [GL.cells, ltCat], by simp [GL.len, ltCat], rfl, rfl, fun h1 h2 e he => ?_⟩
    rcases List.mem_append.1 he with he | he
    · exact h1 e he
    · exact h2 e he
  · refine ⟨by simp [GL.cells, llCat], by simp [GL.len, llCat], rfl, rfl, fun h1 h2 e he => ?_⟩
    rcases List.mem_append.1 he with he | he
    · exact h1 e he
    · exact h2 e he
  · exact ⟨by simp [GL.cells, lsCat], by simp [GL.len, lsCat], rfl, rfl, fun _ _ => trivial⟩

theorem exts_cells : ∀ {l : List SC} {cs : List Value} {r : List Ext}, RepL β own w l cs → Ops.exts l = some r → (GL.exts r).ok ∧ (GL.exts r).cells = cs
  | [], [], r, _, h => by
    simp only [Ops.exts, Option.some.injEq] at h; subst h
    exact ⟨(fun e he => by cases he), rfl⟩
  | [], _ :: _, _, h, _ => h.elim
  | _ :: _, [], _, h, _ => h.elim
  | [x], [_], r, _, h => by cases x <;> simp [Ops.exts] at h
  | [_], _ :: _ :: _, r, h, _ => h.2.elim
  | x :: y :: l, [u], r, h, _ => h.2.elim
  | x :: y :: l, u :: v :: cs, r, h, h' => by
    cases x <;> (try (simp [Ops.exts] at h'; done))
    rename_i k n
    cases k <;> (try (simp [Ops.exts] at h'; done))
    cases y <;> (try (simp [Ops.exts] at h'; done))
    rename_i b
    simp only [Ops.exts] at h'
    obtain ⟨h1, h2, h5⟩ := h
    obtain ⟨e1, h3⟩ := h1
    obtain ⟨e2, h4⟩ := h2
    subst e1
    subst e2
    cases l with
    | nil =>
      simp only [Option.some.injEq] at h'
      subst h'
      cases cs with
      | nil =>
        refine ⟨fun e he => ?_, rfl⟩
        rcases List.mem_singleton.1 he with rfl
        exact ⟨h3, h4⟩
      | cons => exact h5.elim
    | cons y l =>
      simp only [Option.map_eq_some_iff] at h'
      obtain ⟨r', hr, rfl⟩ := h'
      obtain ⟨g1, g2⟩ := exts_cells h5 hr
      refine ⟨fun e he => ?_, ?_⟩
      · rcases List.mem_cons.1 he with rfl | he
        · exact ⟨h3, h4⟩
        · exact g1 e he
      · simp only [GL.cells, lxCat, lxOne, List.flatMap_append, List.flatMap_cons, List.flatMap_nil, List.append_nil]
        simp only [GL.cells] at g2
        rw [g2]; rfl
end
end Go.Adit

namespace Go.Adit
open Go.RowKit

section
variable {P : Program} {w0 : Base} {N : Nat} {s : St} {β : Nat → Option Nat} {a : Act} {w w' : World} {c : Cfg} {z : Zs} {own : Nat → Prop}

theorem strs_cells : ∀ {l : List SC} {cs : List Value} {r : List (List UInt8)}, RepL β own w l cs → Ops.strs l = some r → (GL.strs r).ok ∧ (GL.strs r).cells = cs
  | [], [], r, _, h => by simp only [Ops.strs, Option.some.injEq] at h; subst h; exact ⟨(fun e he => by cases he), rfl⟩
  | x :: l, v :: cs, r, ⟨h1, h2⟩, h => by
    cases x <;> simp [Ops.strs] at h
    case str y =>
      obtain ⟨r', hr, rfl⟩ := h
      obtain ⟨g1, g2⟩ := strs_cells h2 hr
      obtain ⟨rfl, h3⟩ := h1
      refine ⟨fun e he => ?_, by simp only [GL.cells, List.map_cons] at g2 ⊢; rw [g2]⟩
      rcases List.mem_cons.1 he with rfl | he
      · exact h3
      · exact g1 e he
  | [], _ :: _, _, h, _ => h.elim
  | _ :: _, [], _, h, _ => h.elim

theorem ints_cells : ∀ {l : List SC} {cs : List Value} {r : List Int}, RepL β own w l cs → Ops.ints l = some r → (GL.ints r).ok ∧ (GL.ints r).cells = cs
  | [], [], r, _, h => by simp only [Ops.ints, Option.some.injEq] at h; subst h; exact ⟨(fun e he => by cases he), rfl⟩
  | x :: l, v :: cs, r, ⟨h1, h2⟩, h => by
    cases x <;> (try (simp [Ops.ints] at h; done))
    case int k n =>
      cases k <;> simp [Ops.ints] at h
      obtain ⟨r', hr, rfl⟩ := h
      obtain ⟨g1, g2⟩ := ints_cells h2 hr
      obtain ⟨rfl, h3⟩ := h1
      refine ⟨fun e he => ?_, by simp only [GL.cells, List.map_cons] at g2 ⊢; rw [g2]⟩
      rcases List.mem_cons.1 he with rfl | he
      · exact h3
      · exact g1 e he
  | [], _ :: _, _, h, _ => h.elim
  | _ :: _, [], _, h, _ => h.elim

theorem bytes_cells : ∀ {l : List SC} {cs : List Value} {r : List UInt8}, RepL β own w l cs → Ops.bytes l = some r → (GL.bytes r).cells = cs
  | [], [], r, _, h => by simp only [Ops.bytes, Option.some.injEq] at h; subst h; rfl
  | x :: l, v :: cs, r, ⟨h1, h2⟩, h => by
    cases x <;> (try (simp [Ops.bytes] at h; done))
    case byte y =>
      simp only [Ops.bytes, Option.map_eq_some_iff] at h
      obtain ⟨r', hr, rfl⟩ := h
      have g2 := bytes_cells h2 hr
      have : v = .int .u8 (y.toNat : Int) := h1
      simp only [GL.cells, List.map_cons] at g2 ⊢; rw [g2, this]
    case int k n =>
      cases k <;> simp [Ops.bytes] at h
      obtain ⟨r', hr, rfl⟩ := h
      have g2 := bytes_cells h2 hr
      obtain ⟨rfl, h3⟩ := h1
      simp only [GL.cells, List.map_cons] at g2 ⊢
      rw [g2]
      congr 2
      simp only [inR, IntKind.min, IntKind.max, IntKind.signed, IntKind.bits] at h3
      simp at h3
      show (((UInt8.ofNat n.li.toNat).toNat : Nat) : Int) = n.li
      rw [UInt8.toNat_ofNat']
      omega
  | [], _ :: _, _, h, _ => h.elim
  | _ :: _, [], _, h, _ => h.elim

theorem ofCells_spec {k gl : GL} {l : List SC} {cs : List Value} (h : ofCells k l = some gl) (hr : RepL β own w l cs) : gl.ok ∧ gl.cells = cs ∧ gl.esz = k.esz := by
  cases k <;> simp only [ofCells, Option.map_eq_some_iff] at h <;> obtain ⟨r, h1, rfl⟩ := h
  · exact ⟨(exts_cells hr h1).1, (exts_cells hr h1).2, rfl⟩
  · exact ⟨(strs_cells hr h1).1, (strs_cells hr h1).2, rfl⟩
  · exact ⟨(ints_cells hr h1).1, (ints_cells hr h1).2, rfl⟩
  · exact ⟨trivial, bytes_cells hr h1, rfl⟩

/-- what is appended, in memory -/
theorem news_rep (hR : Rel w0 N s β a w) {e t' : Nat} {same : Bool} {kind gl : GL} {d : D} (h : newsE c s e same t' kind d = some gl) (hes : gl.esz = kind.esz) (hsz : (c.ty e).size = kind.esz) {v : Value} (hv : RepD β (fun b => w0.heap.size ≤ b) w d v) :
    (same = true ∧ ListAt w (fun _ => True) gl v) ∨ (c.ty t' = .str ∧ c.ty e = .int .u8 ∧ ∃ b k, kind = .bytes k ∧ gl = .bytes b ∧ v = .string ⟨⟨b⟩⟩ ∧ (b.length : Int) ≤ imax) := by
  unfold newsE at h
  split at h
  · rename_i n off len cap
    split at h
    · rename_i b hm
      simp only [Option.bind_eq_some_iff] at h
      obtain ⟨r, hr, hc⟩ := h
      obtain ⟨bb, hb, rfl, hlen⟩ := hv
      obtain ⟨b', cs, ty, g1, g2, g3, _⟩ := hR.mem n b hm
      obtain rfl : bb = b' := by rw [hb] at g1; exact Option.some.inj g1
      obtain ⟨k1, k2⟩ := RepL.take _ (RepL.drop off g3) hr
      obtain ⟨m1, m2, m3⟩ := ofCells_spec hc k1
      have hpos : 0 < kind.esz := by cases kind <;> simp [GL.esz]
      have hl : gl.len = len := by
        have e1 := cells_len gl
        rw [m2, List.length_take, m3, hsz] at e1
        rw [hsz] at k2
        have e2 : len * kind.esz = gl.len * kind.esz := by omega
        exact (Nat.eq_of_mul_eq_mul_right hpos e2).symm
      refine .inl ⟨rfl, m1, by rw [hl]; exact hlen, _, cap, by rw [hl], .inr ⟨bb, off, rfl, heap_lt g2, trivial, fun j u hu => ?_⟩⟩
      rw [m2, List.getElem?_take] at hu
      split at hu
      · simpa [World.cell?, g2] using hu
      · cases hu
    · cases h
  · rename_i b
    split at h
    · rename_i k h1 h2
      simp only [Option.some.injEq] at h
      subst h
      exact .inr ⟨h1, h2, b, _, rfl, rfl, hv.1, hv.2⟩
    · cases h
  · rename_i l o
    split at h
    · simp only [Option.some.injEq] at h; subst h; exact .inl ⟨rfl, (extsAt_list hv).imp fun _ _ => trivial⟩
    · cases h
  · rename_i l
    split at h
    · simp only [Option.some.injEq] at h; subst h; exact .inl ⟨rfl, (strsAt_list hv).imp fun _ _ => trivial⟩
    · cases h
  · rename_i l
    split at h
    · simp only [Option.some.injEq] at h; subst h; exact .inl ⟨rfl, (intsAt_list hv).imp fun _ _ => trivial⟩
    · cases h
  · split at h
    · exact .inl ⟨rfl, (list_at h hv).imp fun _ _ => trivial⟩
    · cases h
  · cases h

theorem glZero_len {e : Nat} {gl : GL} (h : glZero c e = some gl) : gl.len = 0 ∧ gl.cells = [] ∧ gl.ok := by
  unfold glZero at h
  repeat' split at h
  all_goals first
    | (simp only [Option.some.injEq] at h; subst h; refine ⟨rfl, rfl, ?_⟩; first | trivial | (intro x hx; cases hx))
    | cases h

theorem base_rep {e : Nat} {dst : Option Nat} {d : D} {n : Nat} {gl : GL} (h : baseE c e dst d = some (n, gl)) {v : Value} (hv : RepD β own w d v) : hidN n = true ∧ RepS β own w (.gs n e gl) v := by
  unfold baseE at h
  split at h
  · split at h
    · rename_i d l hd hz
      split at h
      · rename_i hlt
        simp only [Option.some.injEq, Prod.mk.injEq] at h
        obtain ⟨rfl, rfl⟩ := h
        obtain ⟨g1, g2, g3⟩ := glZero_len hz
        have hv' : v = .slice none 0 0 := hv
        subst hv'
        refine ⟨?_, g3, by rw [g1]; decide, ?_, fun b hb => by simp [Value.ownBlock] at hb⟩
        · rw [Nat.blt_eq] at hlt
          unfold hidN
          rw [Nat.ble_eq_true_of_le (by omega)]
          simp only [Nat.blt_eq]
          unfold lentName hidBase
          omega
        · rw [g1, g2]; exact World.ownsRow_nil w 0 e _
      · cases h
    · cases h
  · split at h
    · rename_i hb
      simp only [Bool.and_eq_true] at hb
      simp only [Option.some.injEq, Prod.mk.injEq] at h
      obtain ⟨rfl, rfl⟩ := h
      obtain rfl := Nat.eq_of_beq_eq_true hb.1
      exact ⟨hb.2, hv⟩
    · cases h
  · cases h

theorem sound_append (E : Env P c z) (hR : Rel w0 N s β a w) {o : Oper} {k : Call} (ho : o.op = .call k) (hf : k.callee = .builtin .append) {e : Eff} (he : appendE c z s o.dst k.args.toList k.argTypes.toList = some e) (hq : ∀ b ∈ e.req, b = true) :
    Sound P w0 N s a w o e := by
  unfold appendE at he
  split at he
  · rename_i x y t t' hl ht
    split at he
    · rename_i el h1
      split at he
      · rename_i n l zl hb hz
        simp only [Option.bind_eq_some_iff] at hb he
        obtain ⟨dx, hx, hb⟩ := hb
        obtain ⟨l2, ⟨dy, hy, hn⟩, r, hr, he⟩ := he
        split at he
        · rename_i hc
          simp only [Bool.and_eq_true] at hc
          simp only [Option.some.injEq] at he
          subst he
          obtain ⟨hid, hbase⟩ := base_rep hb (ev_rep hR hx)
          obtain ⟨b1, b2, b3, b4⟩ := hbase
          obtain ⟨r1, r2, r3, r4, r5⟩ := cat_spec hr
          have hsz : (c.ty el).size = l.esz := Nat.eq_of_beq_eq_true hc.2.1
          have hzl : zl.length = l.esz := Nat.eq_of_beq_eq_true hc.2.2
          obtain ⟨i, zv, i1, i2, i3, _⟩ := zero_rep E hz β (fun b => w0.heap.size ≤ b) w
          have isz : i.size = l.esz := by
            obtain ⟨i', j1, j2⟩ := size_of E hc.1
            rw [i1] at j1; cases j1
            rw [j2, hsz]
          have izs : zv.cells.size = l.esz := by rw [← hzl, i3.length]; simp
          obtain ⟨ib, ib8⟩ := E.bts el i hc.1 i1
          have t1 := E.ty t; rw [h1] at t1
          have hfew : l.len + l2.len ≤ 34359738368 := by
            have := hq _ (.head _)
            simp only [lbFew, lenI_eq, decide_eq_true_eq] at this
            omega
          have hk : k = { callee := .builtin .append, args := #[x, y], argTypes := #[t, t'] } := by
            obtain ⟨callee, args, ats⟩ := k
            simp only at hf hl ht
            subst hf
            have e1 : args = #[x, y] := by apply Array.ext'; simpa using hl
            have e2 : ats = #[t, t'] := by apply Array.ext'; simpa using ht
            rw [e1, e2]
          have hown : w.ownsRow w0.heap.size el l.esz (a.eval x) l.len l.cells := by
            refine ⟨b3.1, b3.2.imp id ?_⟩
            rintro ⟨g, cap, cur, q1, q2, q3⟩
            exact ⟨g, cap, cur, q1, (b4 g (by rw [q1]; rfl)).2.2, q3⟩
          have key : Appended P w w0.heap.size #[t, t'] o.type el l.esz l.len l2.len (a.eval x) (a.eval y) (l.cells ++ l2.cells) ∧ l2.ok := by
            rcases news_rep hR hn r4 hsz (ev_rep hR hy) with ⟨q1, q2⟩ | ⟨q1, q0, b, kk, rfl, rfl, q2, q3⟩
            · obtain rfl := Nat.eq_of_beq_eq_true q1
              exact ⟨append_list t1.1 i1 i2 isz izs ib hown hR.bel.size q2 r4 hfew, q2.1⟩
            · obtain ⟨h8, h9⟩ := ib8 q0
              have t2 := E.ty t'; rw [q1] at t2
              rw [q2]
              exact ⟨append_str t1.1 t2.1 i1 h9 isz h8 hown hR.bel.size hfew, trivial⟩
          obtain ⟨⟨v', w', k1, k2, k3, k4⟩, k5⟩ := key
          intro s1 hs1
          simp only [putB, Option.some.injEq] at hs1
          subst hs1
          have hg : Grew β n (a.eval x) v' w w' := ⟨hid, fun b hb => (b4 b hb).2.1, k4, k3, hR.inj, fun m b hm => (hR.new m b hm).2⟩
          have hrel := hR.grown hg (fun b hb => (b4 b hb).2.2) (fun b hb => k2.lt b hb)
          have hko : Adit.killO o (.s (.gs n el r)) s = Adit.killS n s := by simp only [Adit.killO, appName, ho, hf]
          refine Does.run (v := v') (w' := w') ?_ ⟨_, by rw [hko]; exact hrel, r5 b1 k5, ?_, ?_, fun b hb => ⟨hid, ?_, (k2.lt b hb).1⟩⟩
          · simp [execOp, ho, hk, resolve, invoke, builtin, k1, Result.andThen]
          · rw [r2]; unfold imax; omega
          · rw [r1, r2, r3]
            exact ⟨k2.1, k2.2.imp id fun ⟨g, cap, cur, q1, q2, q3⟩ => ⟨g, cap, cur, q1, Nat.zero_le _, q3⟩⟩
          · simp only [reB, if_true]; exact hb
        · cases he
      · cases he
    · cases he
  · cases he
end
end Go.Adit

namespace Go.Adit
open Go.RowKit

section
variable {P : Program} {w0 : Base} {N : Nat} {s : St} {β : Nat → Option Nat} {a : Act} {w w' : World} {c : Cfg} {z : Zs} {own : Nat → Prop}

theorem sound_convG (E : Env P c z) (hR : Rel w0 N s β a w) {o : Oper} {src dst e : TypeId} {x : Operand} (ho : o.op = .convert src dst x) (h1 : c.ty src = .slice e) (h2 : c.ty dst = .str) (h3 : c.ty e = .int .u8)
    {n el : Nat} {l : List UInt8} (hx : ev s x = some (.s (.gs n el (.bytes l)))) {ef : Eff} (he : pureS (.str l) = some ef) : Sound P w0 N s a w o ef := by
  obtain ⟨_, hl, ao, cap, ex, hc⟩ := gs_list (ev_rep hR hx)
  have t1 := E.ty src; rw [h1] at t1
  have t2 := E.ty dst; rw [h2] at t2
  have t3 := E.ty e; rw [h3] at t3
  have hlen : (GL.bytes l).len = l.length := rfl
  have hrun : (convert src dst (a.eval x)).run P w = .ok (.string ⟨⟨l⟩⟩) w := by
    have hns : (l.map fun y => ((y.toNat : Nat) : Int)).map (fun n => UInt8.ofNat n.toNat) = l := by
      rw [List.map_map]
      conv => rhs; rw [← List.map_id l]
      exact List.map_congr_left fun y _ => by simp
    rcases hc with h0 | ⟨b, off, rfl, _, _, h4⟩
    · have : l = [] := List.length_eq_zero_iff.1 (hlen ▸ h0)
      subst this
      rw [ex]
      cases ao with
      | none => simp [convert, run_underlying t1.1, run_underlying t2.1, run_underlying t3.1, GL.len, Conv.bytesToString]; rfl
      | some b =>
        have := run_bytesToString (P := P) w b 0 cap [] (by simp [loadCells, loadCellsFrom])
        rw [show (GL.bytes ([] : List UInt8)).len = 0 from rfl, run_convert_bytes_string w src dst e _ _ _ t1.1 t3.1 t2.1, this]; rfl
    · have hload : (loadCells ⟨b, off, none⟩ l.length).run P w = .ok ((l.map fun y => ((y.toNat : Nat) : Int)).map (Value.int .u8)).toArray w := by
        have := run_loadCells_list (P := P) w ⟨b, off, none⟩ ((l.map fun y => ((y.toNat : Nat) : Int)).map (Value.int .u8)) (fun j v hv => by
          rw [addr_add]
          refine h4 j v ?_
          simp only [GL.cells]
          rw [List.map_map] at hv
          exact hv)
        simpa using this
      rw [ex, hlen, run_convert_bytes_string w src dst e _ _ _ t1.1 t3.1 t2.1, run_bytesToString w _ _ _ _ hload]
      have := foldl_push (l.map fun y => ((y.toNat : Nat) : Int)) []
      rw [show ByteArray.empty = ⟨⟨[]⟩⟩ from rfl, this, hns]
      rfl
  exact Sound.pureS hR he (v := .string ⟨⟨l⟩⟩) (by simp [execOp, ho, hrun]) ⟨rfl, hl⟩

theorem sub_spec (gl : GL) (k : Nat) (hk : k ≤ gl.len) : (gl.sub 0 (k : Int)).len = k ∧ (gl.sub 0 (k : Int)).cells = gl.cells.take (k * gl.esz) ∧ (gl.sub 0 (k : Int)).esz = gl.esz ∧ (gl.ok → (gl.sub 0 (k : Int)).ok) := by
  cases gl with
  | exts l =>
    have e : lxSub l 0 (k : Int) = l.take k := by show (l.take k).drop 0 = _; rw [List.drop_zero]
    simp only [GL.sub, e, GL.len, GL.cells, GL.esz] at hk ⊢
    refine ⟨by rw [List.length_take]; omega, ?_, trivial, fun h x hx => h x (List.mem_of_mem_take hx)⟩
    clear hk
    induction l generalizing k with
    | nil => simp
    | cons x l ih =>
      cases k with
      | zero => simp
      | succ k =>
        rw [List.take_succ_cons, List.flatMap_cons, List.flatMap_cons, ih k (by rfl) , show (k + 1) * 2 = k * 2 + 1 + 1 by omega]
        rfl
  | strs l =>
    have e : ltSub l 0 (k : Int) = l.take k := by show (l.take k).drop 0 = _; rw [List.drop_zero]
    simp only [GL.sub, e, GL.len, GL.cells, GL.esz] at hk ⊢
    exact ⟨by rw [List.length_take]; omega, by rw [Nat.mul_one, List.map_take], trivial, fun h x hx => h x (List.mem_of_mem_take hx)⟩
  | ints l =>
    have e : llSub l 0 (k : Int) = l.take k := by show (l.take k).drop 0 = _; rw [List.drop_zero]
    simp only [GL.sub, e, GL.len, GL.cells, GL.esz] at hk ⊢
    exact ⟨by rw [List.length_take]; omega, by rw [Nat.mul_one, List.map_take], trivial, fun h x hx => h x (List.mem_of_mem_take hx)⟩
  | bytes l =>
    have e : lsSub l 0 (k : Int) = l.take k := by show (l.take k).drop 0 = _; rw [List.drop_zero]
    simp only [GL.sub, e, GL.len, GL.cells, GL.esz] at hk ⊢
    exact ⟨by rw [List.length_take]; omega, by rw [Nat.mul_one, List.map_take], trivial, fun _ => trivial⟩

theorem sound_sliceG (E : Env P c z) (hR : Rel w0 N s β a w) {o : Oper} {t e : TypeId} {x y : Operand} (ho : o.op = .slice t x none (some y) none) (h1 : c.ty t = .slice e) (hk : (c.ty e).known = true)
    {n el : Nat} {gl : GL} (hx : ev s x = some (.s (.gs n el gl))) {d : D} (hy : ev s y = some d) {k : IV} (hd : ivOf d = some k) (q0 : (0 : Int) ≤ k.li) (q1 : k.li ≤ (gl.len : Int)) (q : List Bool) :
    Sound P w0 N s a w o ⟨.s (.gv n (gl.sub (liLit 0) k.li)), none, q⟩ := by
  have hr := ev_rep hR hx
  obtain ⟨g1, g2, g3, g4⟩ := hr
  obtain ⟨kk, e1, e2⟩ := ivOf_rep (ev_rep hR hy) hd
  obtain ⟨j, hj⟩ : ∃ j : Nat, k.li = (j : Int) := ⟨k.li.toNat, by omega⟩
  have hjl : j ≤ gl.len := by omega
  obtain ⟨s1, s2, s3, s4⟩ := sub_spec gl j hjl
  have t1 := E.ty t; rw [h1] at t1
  have hsub : gl.sub (liLit 0) k.li = gl.sub 0 (j : Int) := by rw [hj]; rfl
  rw [hsub]
  rcases g3.2 with ⟨ev0, h0⟩ | ⟨g, cap, cur, ev1, k1, k2, k3, k4, k5, k6⟩
  · have hj0 : j = 0 := by omega
    subst hj0
    have hrun : (execOp a.eval o).run P w = .ok (.value (.slice none 0 0)) w := by
      rw [hj] at e1
      simp [execOp, ho, Instr.sliceAt, run_underlying t1.1, Instr.slice, ev0, e1, Instr.sliceBounds, Instr.sliceBound, asIntOf, run_sizeOf E hk]
    exact Sound.pure hR hrun ⟨s4 g1, by rw [s1]; decide, none, 0, by rw [s1], .inl s1⟩
  · have hrun : (execOp a.eval o).run P w = .ok (.value (.slice (some ⟨g, 0, none⟩) j cap)) w := by
      rw [hj] at e1
      have b1 : (0 : Int) ≤ (j : Int) ∧ (j : Int) ≤ (cap : Int) := ⟨by omega, by omega⟩
      have b2 : j ≤ cap := by omega
      simp [execOp, ho, Instr.sliceAt, run_underlying t1.1, Instr.slice, ev1, e1, Instr.sliceBounds, Instr.sliceBound, asIntOf, run_sizeOf E hk, b1, b2, addr_add]
    refine Sound.pure hR hrun ⟨s4 g1, by rw [s1]; omega, _, cap, by rw [s1], .inr ⟨g, 0, rfl, heap_lt k2, g4 g (by rw [ev1]; rfl), fun i u hu => ?_⟩⟩
    rw [s2, List.getElem?_take] at hu
    split at hu
    · have := g3.cells (g := g) (by rw [ev1]; rfl) i u hu
      have hadd : (⟨g, 0, none⟩ : Go.Addr).add i = ⟨g, i, none⟩ := by unfold Addr.add; split <;> simp_all
      rw [hadd] at this
      rwa [Nat.zero_add]
    · cases hu

theorem sound_makeSlice (E : Env P c z) (hR : Rel w0 N s β a w) {o : Oper} {t e : TypeId} {x y : Operand} (ho : o.op = .makeSlice t x y) (h1 : c.ty t = .slice e) (hk : (c.ty e).known = true) {len cap d : Nat} {dx dy : D}
    (hx : ev s x = some dx) (hdx : litNat dx = some len) (hy : ev s y = some dy) (hdy : litNat dy = some cap) (hc : len = cap) {zl : List SC} (hz : zeroCells c z.ext z.strs z.ints z.nilv 20 e = some zl) (hs : zl.length = (c.ty e).size) (hs0 : 0 < (c.ty e).size) (hb : len * (c.ty e).size ≤ 65536) (h0 : 0 < len) :
    Sound P w0 N s a w o ⟨.s (.lsl d 0 len len), some (d, ⟨repl len zl, e⟩), []⟩ := by
  subst hc
  obtain ⟨i, v, i1, i2, i3, i4⟩ := zero_rep E hz β (fun b => w0.heap.size ≤ b) w
  obtain ⟨k1, e1⟩ := litNat_rep (ev_rep hR hx) hdx
  obtain ⟨k2, e2⟩ := litNat_rep (ev_rep hR hy) hdy
  have t1 := E.ty t; rw [h1] at t1
  have isz : i.size = (c.ty e).size := by
    obtain ⟨i', j1, j2⟩ := size_of E hk
    rw [i1] at j1; cases j1
    exact j2
  have hvl : v.cells.size = (c.ty e).size := by rw [← hs, i3.length]; simp
  obtain ⟨ib, _⟩ := E.bts e i hk i1
  have hle : len ≤ 65536 := Nat.le_trans (Nat.le_mul_of_pos_right len hs0) hb
  have hmul : i.bytes * len ≤ 4096 * 65536 := Nat.mul_le_mul ib hle
  have hrun := run_make (P := P) w t e i v t1.1 i1 i2 k1 k2 (len : Int) (len : Int) (by omega) (Int.le_refl _) (by
    have : ((i.bytes * len : Nat) : Int) ≤ 281474976710656 := by omega
    rwa [Int.natCast_mul] at this) (by omega)
  simp only [Int.toNat_natCast] at hrun
  have hrow : RepL β (fun b => w0.heap.size ≤ b) w (repl len zl) (madeCells v.cells (len * i.size)).toList := by
    refine RepL.ofGet (by simp [repl_length, hs, isz, madeCells]) fun j x hx => ?_
    have hj : j < len * zl.length := by
      have := (List.getElem?_eq_some_iff.1 hx).1
      rwa [repl_length] at this
    rw [repl_get zl len j hj] at hx
    obtain ⟨u, g1, g2⟩ := i3.get hx
    refine ⟨u, ?_, g2⟩
    rw [hs] at hj g1
    have h5 : j % v.cells.size < v.cells.size := Nat.mod_lt _ (by omega)
    have h6 : v.cells[j % v.cells.size]? = some u := by rw [hvl]; simpa using g1
    have h7 : v.cells[j % v.cells.size]! = u := by
      rw [Array.getElem!_eq_getD, Array.getD_eq_getD_getElem?, h6]; rfl
    have h8 : (madeCells v.cells (len * i.size)).toList[j]? = some (v.cells[j % v.cells.size]!) := by
      simp [madeCells, isz, hj]
    rw [h8, h7]
  have hfl : flats (repl len zl) = true := by
    have : ∀ n, flats (repl n zl) = true := by
      intro n
      induction n with
      | zero => rfl
      | succ n ih => simp only [flats, repl, List.all_append, Bool.and_eq_true] at ih i4 ⊢; exact ⟨i4, ih⟩
    exact this len
  refine Sound.new hR (by rw [ho]; rfl) (cs := (madeCells v.cells (len * i.size)).toList) (ty := e) hrow hfl (v := .slice (some ⟨w.heap.size, 0, none⟩) len len) ?_ ?_
  · rw [show (⟨(madeCells v.cells (len * i.size)).toList⟩ : Array Value) = madeCells v.cells (len * i.size) from rfl]
    simp [execOp, ho, e1, e2, hrun]
  · intro β' hb'
    refine ⟨_, hb', rfl, ?_⟩
    unfold imax
    omega

theorem sound_indexLsl (E : Env P c z) (hR : Rel w0 N s β a w) {o : Oper} {t e : TypeId} {x i : Operand} (ho : o.op = .indexAddr t x i) (h : c.ty t = .slice e) (hk : (c.ty e).known = true) {n off len cap : Nat}
    (hx : ev s x = some (.s (.lsl n off len cap))) {d : D} (hi : ev s i = some d) {k : Nat} (hd : litNat d = some k) (hlt : k < len) {ef : Eff} (he : pureS (.ptr n (off + k * (c.ty e).size)) = some ef) : Sound P w0 N s a w o ef := by
  obtain ⟨b, hb, ex, _⟩ := ev_rep hR hx
  obtain ⟨kk, h4⟩ := litNat_rep (ev_rep hR hi) hd
  refine Sound.pureS hR he (exec_indexAddr_slice E ho h hk ex h4 (by omega) (by omega)) ⟨b, hb, ?_⟩
  simp

theorem vis_of {b : Nat} (hi : ∀ n m b, hidN n = true → β n = some b → β m = some b → n = m) (h : (∀ n, β n ≠ some b) ∨ ∃ n, hidN n = true ∧ β n = some b) : ∀ n, hidN n = false → β n ≠ some b := by
  intro n hn e
  rcases h with h | ⟨m, h1, h2⟩
  · exact h n e
  · have := hi m n b h1 h2 e
    subst this
    rw [h1] at hn; cases hn

theorem sound_indexList (E : Env P c z) (hR : Rel w0 N s β a w) {o : Oper} {t e : TypeId} {x i : Operand} (ho : o.op = .indexAddr t x i) (h : c.ty t = .slice e) (hk : (c.ty e).known = true) {y : SC} {gl : GL} (hx : ev s x = some (.s y)) (hl : y.list? = some gl)
    {d : D} (hi : ev s i = some d) {k : IV} (hd : ivOf d = some k) (hq : ∀ b ∈ idxReq k (gl.len : Int), b = true) (q : List Bool) :
    (∀ l, gl = .exts l → (c.ty e).size = 2 → Sound P w0 N s a w o ⟨.s (.eptr (lxKind l k.li) (lxBody l k.li) 0), none, q⟩) ∧
    (∀ l, gl = .strs l → (c.ty e).size = 1 → Sound P w0 N s a w o ⟨.s (.sptr (ltAt l k.li)), none, q⟩) ∧
    (∀ l, gl = .ints l → (c.ty e).size = 1 → Sound P w0 N s a w o ⟨.s (.iptr (llAt l k.li)), none, q⟩) := by
  have hv := list_at hl (ev_rep hR hx)
  obtain ⟨kk, g4, g5⟩ := ivOf_rep (ev_rep hR hi) hd
  obtain ⟨i0, i1⟩ := idx_ok hq
  have hvis : ∀ b, ((fun b => w0.heap.size ≤ b) b ∧ ((∀ n, β n ≠ some b) ∨ ∃ n, hidN n = true ∧ β n = some b)) → ∀ n, hidN n = false → β n ≠ some b := fun b hb => vis_of hR.hidInj hb.2
  refine ⟨fun l e1 hs => ?_, fun l e1 hs => ?_, fun l e1 hs => ?_⟩ <;> subst e1
  · obtain ⟨A, cap, g1, g2, g3⟩ := listAt_exts (hv.imp hvis)
    rcases g3 with rfl | ⟨b, off, rfl, hb, hn, hc⟩
    · simp [GL.len] at i1; omega
    · have hlt : k.li.toNat < l.length := by simp only [GL.len] at i1; omega
      obtain ⟨c1, c2, c3, c4⟩ := hc k.li.toNat _ (getD_of_lt hlt ⟨0, []⟩)
      refine Sound.pure hR (exec_indexAddr_slice E ho h hk g1 g4 i0 (by simpa [GL.len] using i1)) ⟨b, off + k.li.toNat * (c.ty e).size, rfl, hb, hn, ?_⟩
      rw [hs]
      exact ⟨c1, c2, c3, c4⟩
  · obtain ⟨A, cap, g1, g2, g3⟩ := listAt_strs (hv.imp hvis)
    rcases g3 with rfl | ⟨b, off, rfl, hb, hn, hc⟩
    · simp [GL.len] at i1; omega
    · have hlt : k.li.toNat < l.length := by simp only [GL.len] at i1; omega
      obtain ⟨c1, c2⟩ := hc k.li.toNat _ (getD_of_lt hlt [])
      refine Sound.pure hR (exec_indexAddr_slice E ho h hk g1 g4 i0 (by simpa [GL.len] using i1)) ⟨b, off + k.li.toNat * (c.ty e).size, rfl, hb, hn, ?_⟩
      rw [hs, Nat.mul_one]
      exact ⟨c1, c2⟩
  · obtain ⟨A, cap, g1, g2, g3⟩ := listAt_ints (hv.imp hvis)
    rcases g3 with rfl | ⟨b, off, rfl, hb, hn, hc⟩
    · simp [GL.len] at i1; omega
    · have hlt : k.li.toNat < l.length := by simp only [GL.len] at i1; omega
      obtain ⟨c1, c2⟩ := hc k.li.toNat _ (getD_of_lt hlt 0)
      refine Sound.pure hR (exec_indexAddr_slice E ho h hk g1 g4 i0 (by simpa [GL.len] using i1)) ⟨b, off + k.li.toNat * (c.ty e).size, rfl, hb, hn, ?_⟩
      rw [hs, Nat.mul_one]
      exact ⟨c1, c2⟩

theorem sound_same (E : Env P c z) (hR : Rel w0 N s β a w) {o : Oper} {k : Call} {f : FuncId} (ho : o.op = .call k) (hf : k.callee = .value (.func f)) (hs : c.same f = true) {e : Eff} (he : sameE s k.args.toList = some e) : Sound P w0 N s a w o e := by
  obtain ⟨hb, hcon⟩ := E.same f hs
  unfold sameE at he
  split at he
  · rename_i x hl
    have hvs : k.args.toList.map a.eval = [a.eval x] := by rw [hl]; rfl
    have go : ∀ (ao : Option Go.Addr) (n cap : Nat), a.eval x = .slice ao n cap → (n : Int) ≤ imax → n ≤ cap → (∀ cap' w', (cap = 0 → cap' = 0) → Below w.heap.size w w' → RepD β (fun b => w0.heap.size ≤ b) w' e.val (.slice ao n cap')) → e.blk = none → Sound P w0 N s a w o e := by
      intro ao n cap hx h1 h2 h3 h4 s1 hs1
      rw [h4] at hs1
      simp only [putB, Option.some.injEq] at hs1
      subst hs1
      intro K Q hK
      refine wp_enter ho hf hb (R := _) (by rw [hvs, hx]; exact hcon w ao n cap h1 h2) ?_
      rintro e' w' ⟨⟨cap', rfl, h5⟩, h6⟩
      exact hK _ w' ⟨β, (hR.below h6).killO o _, h3 cap' w' h5 h6⟩
    have view : ∀ (n : Nat) (gl : GL), ListAt w (fun b => hidN n = true ∧ β n = some b ∧ w0.heap.size ≤ b) gl (a.eval x) → (∀ ao m cap, a.eval x = .slice ao m cap → m ≤ cap) → e = ⟨.s (.gv n gl), none, []⟩ → Sound P w0 N s a w o e := by
      intro n gl hv hcap he
      obtain ⟨g1, g2, ao, cap, g3, g4⟩ := hv
      refine go ao gl.len cap g3 g2 (hcap _ _ _ g3) (fun cap' w' _ h6 => ?_) (by rw [he])
      rw [he]
      refine ⟨g1, g2, ao, cap', rfl, g4.imp id ?_⟩
      rintro ⟨b, off, f1, f2, f3, f4⟩
      exact ⟨b, off, f1, Nat.lt_of_lt_of_le f2 h6.size, f3, fun j u hu => (World.cell?_of_block (w := w) (h6.block b f2)).trans (f4 j u hu)⟩
    split at he
    · rename_i n el gl hx
      simp only [Option.some.injEq] at he
      have hr := ev_rep hR hx
      refine view n gl (gs_list hr) (fun ao m cap hv => ?_) he.symm
      rcases hr.2.2.1.2 with ⟨e1, e2⟩ | ⟨g, cap', cur, e1, _, _, e3, _⟩
      · rw [hv] at e1; cases e1; exact Nat.le_refl _
      · rw [hv] at e1; cases e1; exact e3
    · rename_i hx
      simp only [Option.some.injEq] at he
      have hr : a.eval x = .slice none 0 0 := ev_rep hR hx
      refine go none 0 0 hr (by decide) (Nat.le_refl _) (fun cap' w' h5 _ => ?_) (by rw [← he])
      rw [← he, h5 rfl]
      rfl
    · cases he
  · cases he
end
end Go.Adit

namespace Go.Adit
open Go.RowKit

section
variable {P : Program} {w0 : Base} {N : Nat} {s : St} {β : Nat → Option Nat} {a : Act} {w : World} {c : Cfg} {z : Zs} {own : Nat → Prop}

theorem beq_of {m n : Nat} (h : Nat.beq m n = true) : m = n := Nat.eq_of_beq_eq_true h
theorem blt_of {m n : Nat} (h : Nat.blt m n = true) : m < n := by simpa [Nat.blt_eq] using h
theorem ble_of {m n : Nat} (h : Nat.ble m n = true) : m ≤ n := Nat.le_of_ble_eq_true h

theorem okTy_of {t : Ty} (h : okTy t = true) : t.known = true ∧ t.size ≠ 0 := by
  simp only [okTy, Bool.and_eq_true, Bool.not_eq_true'] at h
  exact ⟨h.1, fun e => by rw [e] at h; exact absurd h.2 (by decide)⟩

theorem natOf_rep (hR : Rel w0 N s β a w) {x : Option Operand} {m n : Nat} (h : natOf m (x.map (ev s)) = some n) : NatAt a x m n := by
  cases x with
  | none => simp only [Option.map_none, natOf, Option.some.injEq] at h; exact h.symm
  | some y =>
    simp only [Option.map_some, natOf, Option.bind_eq_some_iff] at h
    obtain ⟨d, h1, h2⟩ := h
    exact litNat_rep (ev_rep hR h1) h2

theorem ivsOf_rep (hR : Rel w0 N s β a w) {x : Option Operand} {i : Option IV} (h : ivsOf (x.map (ev s)) = some i) : IvAt a x i := by
  cases x with
  | none => simp only [Option.map_none, ivsOf, Option.some.injEq] at h; subst h; trivial
  | some y =>
    simp only [Option.map_some, ivsOf, Option.map_eq_some_iff, Option.bind_eq_some_iff] at h
    obtain ⟨n, ⟨d, h1, h2⟩, rfl⟩ := h
    obtain ⟨k, h3, _⟩ := ivOf_rep (ev_rep hR h1) h2
    exact ⟨k, h3⟩

theorem sub_length (l : List UInt8) (i j : Int) : (lsSub l i j).length ≤ l.length := by
  simp only [lsSub, List.length_drop, List.length_take]; omega

theorem inR_if {k : IntKind} {p : Prop} [Decidable p] {m n : Int} (h1 : inR k m) (h2 : inR k n) : inR k (if p then m else n) := by split <;> assumption

theorem sound_minmax (hR : Rel w0 N s β a w) {o : Oper} {k : Call} (mx : Bool) (ho : o.op = .call k) (hf : k.callee = .builtin (if mx then .max else .min)) {e : Eff} (he : minmax mx s k.args.toList = some e) : Sound P w0 N s a w o e := by
  unfold minmax at he
  split at he
  · rename_i x y hl
    split at he
    · rename_i p q hx hy
      split at he
      · rename_i kk m k' n h1 h2
        split at he
        · rename_i hk
          subst hk
          obtain ⟨g1, g2⟩ := asI_rep (ev_rep hR hx) h1
          obtain ⟨g3, g4⟩ := asI_rep (ev_rep hR hy) h2
          have ho' : o.op = .call { callee := .builtin (if mx then .max else .min), args := #[x, y], argTypes := k.argTypes } := by
            rw [ho]
            obtain ⟨callee, args, ats⟩ := k
            simp only at hf hl
            subst hf
            have : args = #[x, y] := by apply Array.ext'; simpa using hl
            rw [this]
          refine Sound.pureS hR he (exec_minmax mx ho' g1 g3) ⟨?_, ?_⟩
          · cases mx <;> rfl
          · cases mx
            · exact inR_if g4 g2
            · exact inR_if g4 g2
        · cases he
      · cases he
    · cases he
  · cases he

theorem asY_rep {x : SC} {y : UInt8} (h : asY x = some y) {v : Value} (hv : RepS β own w x v) : RepS β own w (.byte y) v := by
  unfold asY at h
  split at h
  · simp only [Option.some.injEq] at h; subst h; exact hv
  · rename_i n
    simp only [Option.some.injEq] at h; subst h
    obtain ⟨rfl, h1, h2⟩ := hv
    have e1 : IntKind.min .u8 = 0 := rfl
    have e2 : IntKind.max .u8 = 255 := rfl
    rw [e1] at h1
    rw [e2] at h2
    simp only [RepS, lyOfInt, Value.int.injEq, true_and]
    rw [UInt8.toNat_ofNat']
    omega
  · cases h

theorem copyInto_rep {b : List UInt8} : ∀ {l r : List SC} {i : Nat} {vs : List Value}, copyInto b i l = some r → RepL β own w l vs →
    RepL β own w r ((Lib.byteCells (b.drop i)).take vs.length ++ vs.drop (b.length - i))
  | [], r, i, [], h, _ => by simp [copyInto] at h; subst h; simp; trivial
  | x :: l, r, i, v :: vs, h, hv => by
    simp only [copyInto] at h
    split at h
    · rename_i y hy
      simp only [Option.map_eq_some_iff] at h
      obtain ⟨r', h1, rfl⟩ := h
      have ih := copyInto_rep h1 hv.2
      by_cases hi : i < b.length
      · rw [List.drop_eq_getElem_cons hi]
        have e1 : b.length - i = (b.length - (i + 1)) + 1 := by omega
        simp only [Lib.byteCells, List.map_cons, List.length_cons, List.take_succ_cons, e1, List.drop_succ_cons, List.cons_append]
        refine ⟨?_, ih⟩
        have ht : lbLt (liLit i) (liLen b) = true := by simp [lbLt, liLit, liLen]; omega
        simp only [RepS, lyIf]
        rw [ht]
        simp only [if_true, lsAt, liLit]
        simp [List.getD_eq_getElem?_getD, hi]
      · have e1 : b.length - i = 0 := by omega
        have e2 : b.length - (i + 1) = 0 := by omega
        rw [e2, List.drop_eq_nil_of_le (show b.length ≤ i + 1 by omega)] at ih
        rw [e1, List.drop_eq_nil_of_le (show b.length ≤ i by omega)]
        simp only [Lib.byteCells, List.map_nil, List.take_nil, List.nil_append, List.drop_zero] at ih ⊢
        refine ⟨?_, ih⟩
        have ht : lbLt (liLit i) (liLen b) = false := by simp [lbLt, liLit, liLen]; omega
        simp only [ht, lyIf, Bool.false_eq_true, if_false]
        exact asY_rep hy hv.1
    · cases h
  | [], _, _, _ :: _, _, h => h.elim
  | _ :: _, _, _, [], _, h => h.elim

theorem copyInto_flats {b : List UInt8} : ∀ {l r : List SC} {i : Nat}, copyInto b i l = some r → r.all SC.flat = true
  | [], r, i, h => by simp [copyInto] at h; subst h; rfl
  | x :: l, r, i, h => by
    simp only [copyInto] at h
    split at h
    · simp only [Option.map_eq_some_iff] at h
      obtain ⟨r', h1, rfl⟩ := h
      simp [SC.flat, copyInto_flats h1]
    · cases h

theorem sound_copy (E : Env P c z) (hR : Rel w0 N s β a w) {o : Oper} {k : Call} (ho : o.op = .call k) (hf : k.callee = .builtin .copy) {e : Eff} (he : copyE c s k.args.toList k.argTypes.toList = some e) (hq : ∀ b ∈ e.req, b = true) : Sound P w0 N s a w o e := by
  unfold copyE at he
  split at he
  · rename_i x y t t' hl ht
    split at he
    · rename_i elem n off len cap b h1 hx hy
      split at he
      · rename_i blk h2 hm
        simp only [Option.bind_eq_some_iff, Option.map_eq_some_iff] at he
        obtain ⟨new, ⟨old, h7, h8⟩, l', h9, rfl⟩ := he
        have hlen : (b.length : Int) ≤ len := by
          have := hq _ (.head _)
          simpa [lbLe, liLen, liLit] using this
        obtain ⟨bb, hb, ex, _⟩ := ev_rep hR hx
        obtain ⟨ey, hbl⟩ := ev_rep hR hy
        obtain ⟨b', cs, ty, g1, g2, g3, g4⟩ := hR.mem n blk hm
        obtain rfl : bb = b' := by rw [hb] at g1; exact Option.some.inj g1
        obtain ⟨k1, k2⟩ := RepL.take _ (RepL.drop off g3) h7
        have k3 := copyInto_rep h8 k1
        simp only [List.drop_zero, Nat.sub_zero] at k3
        have kl := k3.length
        obtain ⟨m1, m2⟩ := RepL.set off g3 k3 h9
        intro s1 hs1
        obtain rfl : s1 = { s with m := updM s.m n ⟨l', blk.ty⟩ } := by
          obtain ⟨dst, op, tt, pos, af, g⟩ := o
          simp only at ho
          subst ho
          simpa [putB, isWr] using hs1.symm
        have t1 := E.ty t; rw [h1] at t1
        have t2 := E.ty elem; rw [h2] at t2
        have hk : k = { callee := .builtin .copy, args := #[x, y], argTypes := #[t, t'] } := by
          obtain ⟨callee, args, ats⟩ := k
          simp only at hf hl ht
          subst hf
          have e1 : args = #[x, y] := by apply Array.ext'; simpa using hl
          have e2 : ats = #[t, t'] := by apply Array.ext'; simpa using ht
          rw [e1, e2]
        have hll : ((cs.drop off).take len).length = len := by rw [List.length_take]; omega
        have hbl' : (Lib.byteCells b).length = b.length := by simp [Lib.byteCells]
        have hb2 : b.length ≤ len := by omega
        have hrun := Lib.run_copy_row_string (P := P) w t t' o.type elem bb off len cap ⟨⟨b⟩⟩ ⟨cs⟩ ty t1.1 t2.2 g2 (by exact hb2) (by
          rw [List.length_take, List.length_drop] at hll
          show off + b.length ≤ cs.length
          omega)
        have hds : cs.take off ++ ((Lib.byteCells b).take ((cs.drop off).take len).length ++ ((cs.drop off).take len).drop b.length ++ cs.drop (off + ((Lib.byteCells b).take ((cs.drop off).take len).length ++ ((cs.drop off).take len).drop b.length).length)) =
            cs.take off ++ Lib.byteCells b ++ cs.drop (off + b.length) := by
          rw [hll, show (Lib.byteCells b).take len = Lib.byteCells b from List.take_of_length_le (by omega)]
          have e3 : (Lib.byteCells b ++ ((cs.drop off).take len).drop b.length).length = len := by
            rw [List.length_append, hbl', List.length_drop, hll]; omega
          rw [e3, List.append_assoc, List.append_assoc]
          congr 2
          have e4 : off + len = (off + b.length) + (len - b.length) := by omega
          rw [List.drop_take, e4, ← List.drop_drop, ← List.drop_drop, List.take_append_drop]
        rw [hds] at m2
        refine Does.run (v := goInt b.length) (w' := w.setRow bb ⟨cs.take off ++ Lib.byteCells b ++ cs.drop (off + b.length)⟩) ?_ ⟨β, (hR.setRow (blk := ⟨l', blk.ty⟩) (hR.seen hm) hb g2 m2 (setAt_flats off g4 (copyInto_flats h8) h9)).killO o _, ⟨rfl, inR_len hbl⟩⟩
        have hrun' : (Builtin.copy_ #[t, t'] o.type #[a.eval x, a.eval y]).run P w = .ok (goInt b.length) (w.setRow bb ⟨cs.take off ++ Lib.byteCells b ++ cs.drop (off + b.length)⟩) := by
          rw [ex, ey]; exact hrun
        simp [execOp, ho, hk, resolve, invoke, builtin, hrun', Result.andThen]
      · cases he
    · cases he
  · cases he

theorem op_sound (E : Env P c z) (hR : Rel w0 N s β a w) {o : Oper} {e : Eff} (he : opEval c z s o = some e) (hdie : ∀ b n, dieOf c s o = some (b, n) → b.lb = false) (hq : ∀ b ∈ e.req, b = true) : Sound P w0 N s a w o e := by
  unfold opEval at he
  split at he
  · rename_i x ho; exact sound_move hR (.inl ho) he
  · rename_i x ho; exact sound_move hR (.inr ho) he
  · rename_i k x y ho
    split at he
    · rename_i hk; exact sound_pick hR ho (b := true) hk he
    · rename_i hk; exact sound_pick hR ho (b := false) hk he
    · cases he
  · rename_i t ho
    split at he
    · rename_i d l h1 h2
      simp only [Option.some.injEq] at he
      subst he
      exact sound_alloc E hR ho h2
    · cases he
  · rename_i t x ho
    split at he
    · rename_i d l h1 h2
      split at he
      · rename_i hf
        simp only [Option.some.injEq] at he
        subst he
        exact sound_box hR ho h2 hf
      · cases he
    · cases he
  · rename_i t ps ho
    split at he
    · rename_i fs n l h1 h2
      split at he
      · rename_i h3
        simp only [Option.map_eq_some_iff] at he
        obtain ⟨r, h4, rfl⟩ := he
        exact sound_build E hR ho h2 (.inl ⟨fs, n, h1, h3, h4⟩)
      · cases he
    · rename_i n e1 m l h1 h2
      split at he
      · rename_i h3
        simp only [Option.map_eq_some_iff] at he
        obtain ⟨r, h4, rfl⟩ := he
        exact sound_build E hR ho h2 (.inr ⟨n, e1, m, h1, h3, h4⟩)
      · cases he
    · cases he
  · rename_i t len ps ho
    split at he
    · rename_i e1 d h1 h2
      split at he
      · rename_i zl h3
        simp only [Option.bind_eq_some_iff] at he
        obtain ⟨r, h4, he⟩ := he
        split at he
        · rename_i h5
          simp only [Bool.and_eq_true] at h5
          obtain ⟨f1, f2, f3, f4, f5⟩ := h5
          simp only [Option.some.injEq] at he
          subst he
          exact sound_buildSlice E hR ho h1 f2 h3 (beq_of f4) (blt_of f5) (ble_of f3) h4 f1
        · cases he
      · cases he
    · cases he
  · rename_i t x ho
    split at he
    · rename_i n off hx
      split at he
      · rename_i blk hm
        split at he
        · rename_i hk; exact sound_load E hR ho hk hx hm he
        · cases he
      · cases he
    · rename_i kd bd off hx
      obtain ⟨b, o1, ex, hb, hn, c1, c2, c3, c4⟩ := ev_rep hR hx
      split at he
      · rename_i fs h1
        exact Sound.bindPure hR (x := some (.agg [.int .i64 (.sym kd), .str bd])) he fun d hd => by
          simp only [Option.some.injEq] at hd
          subst hd
          exact ⟨_, exec_load2 E ho (by rw [h1]; rfl) (by rw [h1]; rfl) (by rw [h1]; rfl) ex c1 c3, ⟨_, rfl, ⟨rfl, c2⟩, ⟨rfl, c4⟩, trivial⟩⟩
      · rename_i h1
        exact Sound.pureS hR he (exec_load1 E ho (by rw [h1]; rfl) (by rw [h1]; rfl) ex c1) ⟨rfl, c2⟩
      · rename_i h1
        exact Sound.pureS hR he (exec_load1 E ho (by rw [h1]; rfl) (by rw [h1]; rfl) ex c3) ⟨rfl, c4⟩
      · cases he
    · rename_i y hx
      obtain ⟨b, o1, ex, hb, hn, c1, c2⟩ := ev_rep hR hx
      split at he
      · rename_i h1; exact Sound.pureS hR he (exec_load1 E ho (by rw [h1]; rfl) (by rw [h1]; rfl) ex c1) ⟨rfl, c2⟩
      · cases he
    · rename_i y hx
      obtain ⟨b, o1, ex, hb, hn, c1, c2⟩ := ev_rep hR hx
      split at he
      · rename_i h1; exact Sound.pureS hR he (exec_load1 E ho (by rw [h1]; rfl) (by rw [h1]; rfl) ex c1) ⟨rfl, c2⟩
      · cases he
    · cases he
  · rename_i t x y ho
    split at he
    · rename_i n off cs hx hy
      split at he
      · rename_i blk hm
        split at he
        · rename_i h1
          simp only [Bool.and_eq_true] at h1
          simp only [Option.map_eq_some_iff] at he
          obtain ⟨l', h2, rfl⟩ := he
          exact sound_store E hR ho h1.1 hx hy hm (beq_of h1.2.1) h1.2.2 h2
        · cases he
      · cases he
    · cases he
  · rename_i x ho
    split at he
    · rename_i n off hx; exact sound_nilCheck hR ho hx he
    · cases he
  · rename_i op t x y t' ho
    split at he
    · rename_i dx dy hx hy; exact sound_binop E hR ho hx hy he hq
    · cases he
  · rename_i op t x ho
    split at he
    · rename_i b hx; exact sound_not hR ho hx he
    · rename_i k n hx; exact sound_neg hR ho hx he
    · cases he
  · rename_i src dst x ho
    split at he
    · rename_i k0 k y h1 h2 hx; exact sound_convI E hR ho h1 h2 hx he
    · rename_i e1 n off len cap h1 h2 hx
      split at he
      · rename_i blk hm h3
        split at he
        · rename_i h4
          simp only [Option.bind_eq_some_iff] at he
          obtain ⟨ys, ⟨r, h5, h6⟩, he⟩ := he
          exact sound_convB E hR ho h1 h2 h3 hx hm (by rw [h5]; exact h6) (ble_of h4) he
        · cases he
      · cases he
    · rename_i e1 n el l h1 h2 hx
      split at he
      · rename_i h3; exact sound_convG E hR ho h1 h2 h3 hx he
      · cases he
    · cases he
  · rename_i t x lo hi ho
    split at he
    · rename_i l h1 hx
      split at he
      · rename_i i j hi hj
        simp only [Option.some.injEq] at he
        subst he
        obtain ⟨ex, hl⟩ := ev_rep hR hx
        have q : ∀ n, j = some n → 0 ≤ n.li ∧ n.li ≤ (l.length : Int) := by
          rintro n rfl
          exact ⟨(lbLe_iff _ _).1 (hq (lbLe (liLit 0) n.li) (by simp [hiReq])), (lbLe_iff _ _).1 (hq (lbLe n.li (liLen l)) (by simp [hiReq]))⟩
        have p : ∀ n, i = some n → 0 ≤ n.li ∧ n.li ≤ hiOf l.length j := by
          rintro n rfl
          have h2 := (lbLe_iff _ _).1 (hq (lbLe n.li (hiIv l j)) (by simp [loReq]))
          exact ⟨(lbLe_iff _ _).1 (hq (lbLe (liLit 0) n.li) (by simp [loReq])), by cases j <;> exact h2⟩
        have hrun := exec_slice_str (P := P) (w := w) E ho h1 ex (ivsOf_rep hR hi) (ivsOf_rep hR hj) p q
        refine Sound.pure hR hrun ⟨?_, ?_⟩
        · cases i <;> cases j <;> rfl
        · have := sub_length l (loIv i) (hiIv l j)
          omega
      · cases he
    · rename_i n e1 m b off h1 hx
      split at he
      · rename_i i j hi hj
        split at he
        · rename_i h2
          simp only [Bool.and_eq_true] at h2
          obtain ⟨⟨f1, f2⟩, f3, f4, f5⟩ := h2
          obtain ⟨b', hb, ex⟩ := ev_rep hR hx
          refine Sound.pureS hR he (exec_slice_arr E ho h1 f4 ex (natOf_rep hR hi) (natOf_rep hR hj) (ble_of f1) (ble_of f2) (blt_of f3)) ⟨b', hb, rfl, ?_⟩
          have g1 := ble_of f2
          have g2 := ble_of f5
          unfold imax
          omega
        · cases he
      · cases he
    · rename_i e1 n el gl h hh h1 hx hlo hhi
      simp only [Option.bind_eq_some_iff] at he
      obtain ⟨k, h2, he⟩ := he
      split at he
      · rename_i h3
        simp only [Bool.and_eq_true] at h3
        simp only [Option.some.injEq] at he
        subst he
        cases lo with
        | some y => simp at hlo
        | none =>
          cases hi with
          | none => simp at hhi
          | some y =>
            simp only [Option.map_some, Option.some.injEq] at hhi
            have q0 := (lbLe_iff _ _).1 (hq _ (.head _))
            have q1 := (lbLe_iff _ _).1 (hq _ (.tail _ (.head _)))
            rw [lenI_eq] at q1
            exact sound_sliceG E hR ho h1 h3.1 hx hhi h2 q0 q1 _
      · cases he
    · cases he
  · rename_i t x f ho
    split at he
    · rename_i fs m n off h1 hx
      simp only [Option.bind_eq_some_iff] at he
      obtain ⟨p, h2, he⟩ := he
      split at he
      · rename_i h3
        obtain ⟨k1, k2⟩ := okTy_of h3
        obtain ⟨b, hb, ex⟩ := ev_rep hR hx
        exact Sound.pureS hR he (exec_fieldAddr E ho h1 h2 k1 k2 ex) ⟨b, hb, rfl⟩
      · cases he
    · rename_i fs m kd bd off h1 hx
      simp only [Option.bind_eq_some_iff] at he
      obtain ⟨p, h2, he⟩ := he
      split at he
      · rename_i h3
        obtain ⟨k1, k2⟩ := okTy_of h3
        obtain ⟨b, o1, ex, hb, hn, c1, c2, c3, c4⟩ := ev_rep hR hx
        exact Sound.pureS hR he (exec_fieldAddr E ho h1 h2 k1 k2 ex) ⟨b, o1, by rw [Nat.add_assoc], hb, hn, c1, c2, c3, c4⟩
      · cases he
    · cases he
  · rename_i t x f ho
    split at he
    · rename_i fs m l h1 hx; exact sound_field E hR ho h1 hx he
    · cases he
  · rename_i t x i ho
    split at he
    · rename_i n e1 m b off j h1 hx hi
      simp only [Option.bind_eq_some_iff] at he
      obtain ⟨k, h2, he⟩ := he
      split at he
      · rename_i h3
        simp only [Bool.and_eq_true] at h3
        obtain ⟨b', hb, ex⟩ := ev_rep hR hx
        obtain ⟨kk, h4⟩ := litNat_rep (ev_rep hR hi) h2
        exact Sound.pureS hR he (exec_indexAddr_arr E ho h1 h3.2 ex h4 (blt_of h3.1)) ⟨b', hb, rfl⟩
      · cases he
    · rename_i e1 l fl j h1 hx hi
      simp only [Option.bind_eq_some_iff] at he
      obtain ⟨k, h2, he⟩ := he
      split at he
      · rename_i h3
        simp only [Bool.and_eq_true] at h3
        simp only [Option.some.injEq] at he
        subst he
        exact sound_indexAddr_exts E hR ho h1 h3.1 (beq_of h3.2) hx hi h2 hq _
      · cases he
    · rename_i e1 l j h1 hx hi
      simp only [Option.bind_eq_some_iff] at he
      obtain ⟨k, h2, he⟩ := he
      split at he
      · rename_i h3
        simp only [Bool.and_eq_true] at h3
        simp only [Option.some.injEq] at he
        subst he
        exact sound_indexAddr_strs E hR ho h1 h3.1 (beq_of h3.2) hx hi h2 hq _
      · cases he
    · rename_i e1 l j h1 hx hi
      simp only [Option.bind_eq_some_iff] at he
      obtain ⟨k, h2, he⟩ := he
      split at he
      · rename_i h3
        simp only [Bool.and_eq_true] at h3
        simp only [Option.some.injEq] at he
        subst he
        exact sound_indexAddr_ints E hR ho h1 h3.1 (beq_of h3.2) hx hi h2 hq _
      · cases he
    · rename_i e1 b off len cap j h1 hx hi
      simp only [Option.bind_eq_some_iff] at he
      obtain ⟨k, h2, he⟩ := he
      split at he
      · rename_i h3
        simp only [Bool.and_eq_true] at h3
        exact sound_indexLsl E hR ho h1 h3.2 hx hi h2 (blt_of h3.1) he
      · cases he
    · rename_i e1 y j h1 hx hi
      simp only [Option.bind_eq_some_iff] at he
      obtain ⟨k, h2, he⟩ := he
      split at he
      · rename_i h3
        split at he
        · rename_i l hl
          split at he
          · rename_i h4
            simp only [Option.some.injEq] at he; subst he
            exact (sound_indexList E hR ho h1 h3 hx hl hi h2 hq _).1 l rfl (beq_of h4)
          · cases he
        · rename_i l hl
          split at he
          · rename_i h4
            simp only [Option.some.injEq] at he; subst he
            exact (sound_indexList E hR ho h1 h3 hx hl hi h2 hq _).2.1 l rfl (beq_of h4)
          · cases he
        · rename_i l hl
          split at he
          · rename_i h4
            simp only [Option.some.injEq] at he; subst he
            exact (sound_indexList E hR ho h1 h3 hx hl hi h2 hq _).2.2 l rfl (beq_of h4)
          · cases he
        · cases he
      · cases he
    · cases he
  · rename_i t x i ho
    split at he
    · rename_i l j h1 hx hi
      simp only [Option.bind_eq_some_iff, Option.some.injEq] at he
      obtain ⟨k, h2, rfl⟩ := he
      obtain ⟨ex, hl⟩ := ev_rep hR hx
      obtain ⟨kk, h4, h5⟩ := ivOf_rep (ev_rep hR hi) h2
      obtain ⟨i0, i1⟩ := idx_ok hq
      exact Sound.pure hR (exec_index_str E ho h1 ex h4 i0 i1) rfl
    · rename_i n e1 m l j h1 hx hi
      simp only [Option.bind_eq_some_iff] at he
      obtain ⟨k, h2, he⟩ := he
      split at he
      · rename_i h3
        simp only [Bool.and_eq_true] at h3
        obtain ⟨kk, h4⟩ := litNat_rep (ev_rep hR hi) h2
        obtain ⟨cs, ex, rl⟩ := ev_rep hR hx
        have e2 := E.ty t; rw [h1] at e2
        refine Sound.bindPure hR he fun d hd => ?_
        obtain ⟨v, k1, k2⟩ := run_part E h3.2 rl hd
        have hlt := blt_of h3.1
        have h6 : (0 : Int) ≤ k ∧ (k : Int) < n := ⟨by omega, by omega⟩
        exact ⟨v, by simp [execOp, ho, Instr.index, h4, asIntOf, run_underlying e2.1, ex, h6, hlt, run_sizeOf E h3.2, k1], k2⟩
      · cases he
    · cases he
  · rename_i x i ho
    split at he
    · rename_i l hx; exact sound_extract hR ho hx he
    · cases he
  · rename_i k ho
    split at he
    · rename_i f hf
      have hd0 : ∀ b n, dieE c s f k.args.toList = some (b, n) → b.lb = false := fun b n h => hdie b n (by simp only [dieOf, ho, hf]; exact h)
      unfold callE at he
      unfold dieE at hd0
      split at he
      · rename_i hsm; exact sound_same E hR ho hf hsm he
      rename_i hsm
      simp only [hsm] at hd0
      split at he
      · rename_i m hlt
        simp only [hlt] at hd0
        simp only [Option.bind_eq_some_iff] at he
        obtain ⟨q, h1, l, h2, r, h3, he⟩ := he
        split at he
        · rename_i h4
          simp only [Bool.and_eq_true] at h4
          simp only [Option.some.injEq] at he
          subst he
          exact sound_callm E hR ho hf hlt h1 h2 (fun b n h => hd0 b n (by simp [h1, h2, h])) h3 h4.1 h4.2.1 hq
        · cases he
      · rename_i hlt
        simp only [hlt] at hd0
        simp only [Option.bind_eq_some_iff] at he
        obtain ⟨l, h1, r, h2, he⟩ := he
        split at he
        · rename_i h3
          simp only [Option.some.injEq] at he
          subst he
          exact sound_call E hR ho hf hlt h1 (fun b n h => hd0 b n (by simp [h1, h])) h2 h3 hq
        · cases he
    · rename_i hf
      split at he
      · rename_i x t ts hl ht
        have ho' : o.op = .call { callee := .builtin .len, args := #[x], argTypes := k.argTypes } := by
          rw [ho]
          obtain ⟨callee, args, ats⟩ := k
          simp only at hf hl
          subst hf
          have : args = #[x] := by apply Array.ext'; simpa using hl
          rw [this]
        have ht' : k.argTypes[0]? = some t := by rw [← Array.getElem?_toList, ht]; rfl
        split at he
        · rename_i l hx h1
          obtain ⟨ex, hl⟩ := ev_rep hR hx
          exact Sound.pureS hR he (exec_len E ho' ex ht' (.inl ⟨l, h1, rfl, rfl⟩)) ⟨rfl, inR_len hl⟩
        · rename_i l fl e1 hx h1
          obtain ⟨p, cap, ex, hl, _⟩ := ev_rep hR hx
          exact Sound.pureS hR he (exec_len E ho' ex ht' (.inr ⟨_, p, cap, h1, rfl⟩)) ⟨rfl, inR_len hl⟩
        · rename_i l e1 hx h1
          obtain ⟨p, cap, ex, hl, _⟩ := ev_rep hR hx
          exact Sound.pureS hR he (exec_len E ho' ex ht' (.inr ⟨_, p, cap, h1, rfl⟩)) ⟨rfl, inR_len hl⟩
        · rename_i l e1 hx h1
          obtain ⟨p, cap, ex, hl, _⟩ := ev_rep hR hx
          exact Sound.pureS hR he (exec_len E ho' ex ht' (.inr ⟨_, p, cap, h1, rfl⟩)) ⟨rfl, inR_len hl⟩
        · rename_i n off len cap e1 hx h1
          obtain ⟨b, hb, ex, hl⟩ := ev_rep hR hx
          exact Sound.pureS hR he (exec_len E ho' ex ht' (.inr ⟨_, _, cap, h1, rfl⟩)) ⟨rfl, inR_len hl⟩
        · rename_i e1 hx h1
          have ex : a.eval x = .slice none 0 0 := ev_rep hR hx
          exact Sound.pureS hR he (exec_len E ho' ex ht' (.inr ⟨_, _, 0, h1, rfl⟩)) ⟨rfl, inR_len (by decide)⟩
        · rename_i y e1 hx h1
          simp only [Option.bind_eq_some_iff] at he
          obtain ⟨gl, h2, he⟩ := he
          obtain ⟨_, hl, p, cap, ex, _⟩ := list_at h2 (ev_rep hR hx)
          exact Sound.pureS hR he (exec_len E ho' ex ht' (.inr ⟨_, p, cap, h1, rfl⟩)) ⟨by rw [IV.li_sym, lenI_eq], by rw [IV.li_sym, lenI_eq]; exact inR_len hl⟩
        · cases he
      · cases he
    · rename_i hf; exact sound_append E hR ho hf he hq
    · rename_i hf; exact sound_copy E hR ho hf he hq
    · rename_i hf; exact sound_minmax hR false ho hf he
    · rename_i hf; exact sound_minmax hR true ho hf he
    · cases he
  · rename_i t x y ho
    split at he
    · rename_i e1 len cap d h1 hx hy hd
      split at he
      · rename_i zl h3
        split at he
        · rename_i h5
          simp only [Bool.and_eq_true] at h5
          obtain ⟨f1, f2, f3, f4, f5, f6⟩ := h5
          simp only [Option.some.injEq] at he
          subst he
          simp only [Option.bind_eq_some_iff] at hx hy
          obtain ⟨dx, hx1, hx2⟩ := hx
          obtain ⟨dy, hy1, hy2⟩ := hy
          exact sound_makeSlice E hR ho h1 f2 hx1 hx2 hy1 hy2 (beq_of f1) h3 (beq_of f4) (blt_of f5) (ble_of f3) (blt_of f6)
        · cases he
      · cases he
    · cases he
  · cases he
end
end Go.Adit

namespace Go.Adit
open Go.RowKit

def D.nm : D → List Nat
  | .s x => x.names
  | .agg l => l.flatMap SC.names
  | .tup _ => []

/-- a block of this name is there, if the name is one to be seen -/
def Has (s : St) (n : Nat) : Prop := hidN n = false → s.m n ≠ none

structure WF (s : St) : Prop where
  t : ∀ t d, s.t t = some d → ∀ n ∈ d.nm, Has s n
  m : ∀ n b, s.m n = some b → flats b.cells = true

theorem flat_names {x : SC} (h : x.flat = true) : x.names = [] := by cases x <;> simp [SC.flat] at h <;> rfl

theorem flats_names : ∀ {l : List SC}, flats l = true → l.flatMap SC.names = []
  | [], _ => rfl
  | x :: l, h => by
    simp only [flats, List.all_cons, Bool.and_eq_true] at h
    simp [flat_names h.1, flats_names (l := l) h.2]

theorem clean_flat {x : SC} (h : x.clean = true) : x.flat = true := by
  cases x <;> simp [SC.clean] at h <;> rfl

theorem cleanT_nm {d : D} (h : d.cleanT = true) : d.nm = [] := by
  cases d with
  | s x => exact flat_names (clean_flat h)
  | agg l =>
    refine flats_names ?_
    simp only [flats, List.all_eq_true]
    simp only [D.cleanT, D.clean, List.all_eq_true] at h
    exact fun x hx => clean_flat (h x hx)
  | tup l => rfl

theorem clean_nm {d : D} (h : d.clean = true) : d.nm = [] := by
  cases d with
  | tup l => rfl
  | s x => exact cleanT_nm (d := .s x) h
  | agg l => exact cleanT_nm (d := .agg l) h

theorem ofValue_flat {v : Value} {x : SC} (h : ofValue v = some x) : x.names = [] := by
  cases v <;> simp [ofValue] at h
  case bool => subst h; rfl
  case int => obtain ⟨_, rfl⟩ := h; rfl
  case string => obtain ⟨_, rfl⟩ := h; rfl
  case pointer a => cases a <;> simp at h; subst h; rfl
  case slice a n c =>
    split at h
    all_goals first
      | (rename_i e; simp at e; done)
      | (simp only [Option.some.injEq] at h; subst h; rfl)
      | cases h

section
variable {s : St} {c : Cfg} {z : Zs}

theorem ev_nm (h : WF s) {x : Operand} {d : D} (he : ev s x = some d) : ∀ n ∈ d.nm, Has s n := by
  cases x with
  | tmp t => exact h.t t d he
  | const v =>
    simp only [ev, Option.map_eq_some_iff] at he
    obtain ⟨y, h1, rfl⟩ := he
    simp [D.nm, ofValue_flat h1]
  | func f => simp only [ev, Option.some.injEq] at he; subst he; simp [D.nm, SC.names]
  | global g => simp [ev] at he

theorem takeN_mem : ∀ {n : Nat} {l r : List SC}, takeN n l = some r → ∀ x ∈ r, x ∈ l
  | 0, l, r, h => by simp [takeN] at h; subst h; simp
  | n + 1, [], r, h => by simp [takeN] at h
  | n + 1, y :: l, r, h => by
    simp only [takeN, Option.map_eq_some_iff] at h
    obtain ⟨r', h1, rfl⟩ := h
    intro x hx
    rcases List.mem_cons.1 hx with rfl | hx
    · simp
    · exact List.mem_cons_of_mem _ (takeN_mem h1 x hx)

theorem dropN_mem : ∀ {n : Nat} {l : List SC}, ∀ x ∈ dropN n l, x ∈ l
  | 0, l, x, h => h
  | n + 1, [], x, h => by simp [dropN] at h
  | n + 1, y :: l, x, h => List.mem_cons_of_mem _ (dropN_mem (n := n) (l := l) x h)

theorem partOf_nm {t : Ty} {l : List SC} {off : Nat} {d : D} (h : partOf t l off = some d) : ∀ n ∈ d.nm, n ∈ l.flatMap SC.names := by
  unfold partOf at h
  split at h
  · simp only [Option.map_eq_some_iff] at h
    obtain ⟨r, h1, rfl⟩ := h
    intro n hn
    simp only [D.nm, List.mem_flatMap] at hn ⊢
    obtain ⟨x, hx, hn⟩ := hn
    exact ⟨x, dropN_mem x (takeN_mem h1 x hx), hn⟩
  · split at h
    · rename_i x l' hl
      simp only [Option.some.injEq] at h
      subst h
      intro n hn
      simp only [D.nm] at hn
      rw [List.mem_flatMap]
      exact ⟨x, dropN_mem (n := off) x (by rw [hl]; simp), hn⟩
    · cases h

theorem setAt_mem : ∀ {l r l' : List SC} (n : Nat), setAt l n r = some l' → ∀ x ∈ l', x ∈ l ∨ x ∈ r
  | l, [], l', 0, h, x, hx => by simp [setAt] at h; subst h; exact .inl hx
  | y :: l, u :: r, l', 0, h, x, hx => by
    simp only [setAt, Option.map_eq_some_iff] at h
    obtain ⟨l1, h1, rfl⟩ := h
    rcases List.mem_cons.1 hx with rfl | hx
    · exact .inr (by simp)
    · exact (setAt_mem 0 h1 x hx).imp (List.mem_cons_of_mem _) (List.mem_cons_of_mem _)
  | y :: l, r, l', n + 1, h, x, hx => by
    have h' : (setAt l n r).map (y :: ·) = some l' := by cases r <;> simpa [setAt] using h
    simp only [Option.map_eq_some_iff] at h'
    obtain ⟨l1, h1, rfl⟩ := h'
    rcases List.mem_cons.1 hx with rfl | hx
    · exact .inl (by simp)
    · exact (setAt_mem n h1 x hx).imp (List.mem_cons_of_mem _) id
  | [], _ :: _, _, 0, h, _, _ => by simp [setAt] at h
  | [], r, _, n + 1, h, _, _ => by cases r <;> simp [setAt] at h

theorem cellsOf_nm {d : D} {l : List SC} (h : cellsOf d = some l) : l.flatMap SC.names = d.nm := by
  cases d <;> simp [cellsOf] at h <;> subst h <;> simp [D.nm]

theorem fill_nm (h : WF s) {place : Nat → Option (Nat × Nat)} : ∀ {ps : List (Nat × Operand)} {l l' : List SC}, fillParts place s l ps = some l' → (∀ n ∈ l.flatMap SC.names, Has s n) →
    ∀ n ∈ l'.flatMap SC.names, Has s n
  | [], l, l', hf, hl => by simp [fillParts] at hf; subst hf; exact hl
  | (i, x) :: r, l, l', hf, hl => by
    simp only [fillParts] at hf
    split at hf
    · rename_i off size ds h1 h2
      split at hf
      · simp only [Option.bind_eq_some_iff] at hf h2
        obtain ⟨l1, h4, h5⟩ := hf
        obtain ⟨d, h6, h7⟩ := h2
        refine fill_nm h h5 fun n hn => ?_
        rw [List.mem_flatMap] at hn
        obtain ⟨y, hy, hn⟩ := hn
        rcases setAt_mem off h4 y hy with hy | hy
        · exact hl n (List.mem_flatMap.2 ⟨y, hy, hn⟩)
        · refine ev_nm h h6 n ?_
          rw [← cellsOf_nm h7]
          exact List.mem_flatMap.2 ⟨y, hy, hn⟩
      · cases hf
    · cases hf

/-- the zero values bear no names -/
def ZeroFlat (c : Cfg) (z : Zs) : Prop := ∀ t l, zeroCells c z.ext z.strs z.ints z.nilv 20 t = some l → flats l = true

/-- what an operation hands back names blocks that are there, or the one that it makes; what it lays is flat -/
def EffOK (s : St) (e : Eff) : Prop :=
  (∀ n ∈ e.val.nm, Has s n ∨ ∃ b, e.blk = some (n, b)) ∧ (∀ n b, e.blk = some (n, b) → flats b.cells = true)

theorem EffOK.pure {d : D} {l : List Bool} (h : ∀ n ∈ d.nm, Has s n) : EffOK s ⟨d, none, l⟩ :=
  ⟨fun n hn => .inl (h n hn), fun _ _ h => by cases h⟩

theorem EffOK.pureS {x : SC} {e : Eff} (he : pureS x = some e) (h : ∀ n ∈ x.names, Has s n) : EffOK s e := by
  simp only [Go.Adit.pureS, Option.some.injEq] at he
  subst he
  exact EffOK.pure h

theorem EffOK.bindPure {x : Option D} {e : Eff} (he : x.bind pureV = some e) (h : ∀ d, x = some d → ∀ n ∈ d.nm, Has s n) : EffOK s e := by
  cases x with
  | none => simp at he
  | some d => simp only [Option.bind_some, pureV, Option.some.injEq] at he; subst he; exact EffOK.pure (h d rfl)

theorem EffOK.new {d : Nat} {x : SC} {b : Blk} {l : List Bool} (hx : x.names = [d]) (hb : flats b.cells = true) : EffOK s ⟨.s x, some (d, b), l⟩ :=
  ⟨fun m hm => .inr ⟨b, by simp only [D.nm, hx, List.mem_singleton] at hm; subst hm; rfl⟩, fun _ _ h => by cases h; exact hb⟩

theorem nm_nil {x : SC} (h : x.names = []) : ∀ n ∈ x.names, Has s n := by rw [h]; intro n hn; cases hn

theorem binop_eff {t : Nat} {op : BinOp} {x y : D} {e : Eff} (he : binop c z t op x y = some e) : EffOK s e := by
  have hI : ∀ k k' m n, binopI op k k' m n = some e → EffOK s e := by
    intro k k' m n h
    unfold binopI at h
    split at h
    · simp only [Option.bind_eq_some_iff, Option.some.injEq] at h; obtain ⟨r, _, rfl⟩ := h; exact EffOK.pure (fun n hn => by cases hn)
    · exact EffOK.pureS h (nm_nil rfl)
    · simp only [Option.bind_eq_some_iff, Option.some.injEq] at h; obtain ⟨r, _, rfl⟩ := h; exact EffOK.pure (fun n hn => by cases hn)
    · cases h
  unfold binop at he
  split at he
  · split at he
    · split at he
      · simp only [Option.bind_eq_some_iff] at he; obtain ⟨v, _, he⟩ := he; exact EffOK.pureS he (nm_nil rfl)
      · cases he
    · cases he
  · split at he
    · simp only [Option.some.injEq] at he; subst he; exact EffOK.pure (fun n hn => by cases hn)
    · split at he
      · exact EffOK.pureS he (nm_nil rfl)
      · cases he
  · split at he
    · exact EffOK.pureS he (nm_nil rfl)
    · cases he
  · split at he
    · exact EffOK.pureS he (nm_nil rfl)
    · cases he
  · split at he
    · exact hI _ _ _ _ he
    · cases he
  · cases he

theorem copyInto_flat {b : List UInt8} : ∀ {l r : List SC} {i : Nat}, copyInto b i l = some r → r.all SC.flat = true
  | [], r, i, h => by simp [copyInto] at h; subst h; rfl
  | x :: l, r, i, h => by
    simp only [copyInto] at h
    split at h
    · simp only [Option.map_eq_some_iff] at h
      obtain ⟨r', h1, rfl⟩ := h
      simp [SC.flat, copyInto_flat h1]
    · cases h

theorem minmax_eff {mx : Bool} {l : List Operand} {e : Eff} (he : minmax mx s l = some e) : EffOK s e := by
  unfold minmax at he
  split at he
  · split at he
    · split at he
      · split at he
        · exact EffOK.pureS he (nm_nil rfl)
        · cases he
      · cases he
    · cases he
  · cases he

theorem opEval_eff (hz : ZeroFlat c z) (h : WF s) {o : Oper} {e : Eff} (he : opEval c z s o = some e) : EffOK s e := by
  unfold opEval at he
  split at he
  · exact EffOK.bindPure he fun d hd => ev_nm h hd
  · exact EffOK.bindPure he fun d hd => ev_nm h hd
  · split at he
    · exact EffOK.bindPure he fun d hd => ev_nm h hd
    · exact EffOK.bindPure he fun d hd => ev_nm h hd
    · cases he
  · split at he
    · rename_i d l h1 h2
      simp only [Option.some.injEq] at he; subst he; exact EffOK.new (d := d) rfl (hz _ _ h2)
    · cases he
  · split at he
    · rename_i d l h1 h2
      split at he
      · rename_i hf; simp only [Option.some.injEq] at he; subst he; exact EffOK.new (d := d) rfl hf
      · cases he
    · cases he
  · split at he
    · rename_i fs n l h1 h2
      split at he
      · simp only [Option.map_eq_some_iff] at he
        obtain ⟨r, h4, rfl⟩ := he
        exact EffOK.pure (fill_nm h h4 (by rw [flats_names (hz _ _ h2)]; simp))
      · cases he
    · rename_i n e1 m l h1 h2
      split at he
      · simp only [Option.map_eq_some_iff] at he
        obtain ⟨r, h4, rfl⟩ := he
        exact EffOK.pure (fill_nm h h4 (by rw [flats_names (hz _ _ h2)]; simp))
      · cases he
    · cases he
  · split at he
    · rename_i e1 d h1 h2
      split at he
      · simp only [Option.bind_eq_some_iff] at he
        obtain ⟨r, h4, he⟩ := he
        split at he
        · rename_i h5
          simp only [Bool.and_eq_true] at h5
          simp only [Option.some.injEq] at he; subst he; exact EffOK.new (d := d) rfl h5.1
        · cases he
      · cases he
    · cases he
  · split at he
    · split at he
      · rename_i blk hm
        split at he
        · exact EffOK.bindPure he fun d hd n hn => by
            have := partOf_nm hd n hn
            rw [flats_names (h.m _ _ hm)] at this
            cases this
        · cases he
      · cases he
    · split at he
      · simp only [pureV, Option.some.injEq] at he; subst he; exact EffOK.pure (by simp [D.nm, SC.names])
      · exact EffOK.pureS he (nm_nil rfl)
      · exact EffOK.pureS he (nm_nil rfl)
      · cases he
    · split at he
      · exact EffOK.pureS he (nm_nil rfl)
      · cases he
    · split at he
      · exact EffOK.pureS he (nm_nil rfl)
      · cases he
    · cases he
  · split at he
    · split at he
      · rename_i blk hm
        split at he
        · rename_i h1
          simp only [Bool.and_eq_true] at h1
          simp only [Option.map_eq_some_iff] at he
          obtain ⟨l', h2, rfl⟩ := he
          exact ⟨fun n hn => (by cases hn), fun _ _ hb => (by cases hb; exact setAt_flats _ (h.m _ _ hm) h1.2.2 h2)⟩
        · cases he
      · cases he
    · cases he
  · split at he
    · rename_i n off hx
      exact EffOK.pureS he (ev_nm h hx)
    · cases he
  · split at he
    · exact binop_eff he
    · cases he
  · split at he
    · exact EffOK.pureS he (nm_nil rfl)
    · exact EffOK.pureS he (nm_nil rfl)
    · cases he
  · split at he
    · simp only [Option.bind_eq_some_iff] at he; obtain ⟨r, _, he⟩ := he; exact EffOK.pureS he (nm_nil rfl)
    · split at he
      · split at he
        · simp only [Option.bind_eq_some_iff] at he; obtain ⟨r, _, he⟩ := he; exact EffOK.pureS he (nm_nil rfl)
        · cases he
      · cases he
    · split at he
      · exact EffOK.pureS he (nm_nil rfl)
      · cases he
    · cases he
  · split at he
    · split at he
      · simp only [Option.some.injEq] at he; subst he; exact EffOK.pure (by simp [D.nm, SC.names])
      · cases he
    · rename_i hx
      split at he
      · split at he
        · exact EffOK.pureS he (by have := ev_nm h hx; exact this)
        · cases he
      · cases he
    · simp only [Option.bind_eq_some_iff] at he
      obtain ⟨k, _, he⟩ := he
      split at he
      · simp only [Option.some.injEq] at he; subst he; exact EffOK.pure (by simp [D.nm, SC.names])
      · cases he
    · cases he
  · split at he
    · rename_i hx
      simp only [Option.bind_eq_some_iff] at he
      obtain ⟨p, _, he⟩ := he
      split at he
      · exact EffOK.pureS he (by have := ev_nm h hx; exact this)
      · cases he
    · simp only [Option.bind_eq_some_iff] at he
      obtain ⟨p, _, he⟩ := he
      split at he
      · exact EffOK.pureS he (nm_nil rfl)
      · cases he
    · cases he
  · split at he
    · rename_i hx
      simp only [Option.bind_eq_some_iff] at he
      obtain ⟨p, _, he⟩ := he
      split at he
      · exact EffOK.bindPure he fun d hd n hn => ev_nm h hx n (partOf_nm hd n hn)
      · cases he
    · cases he
  · split at he
    · rename_i hx hi
      simp only [Option.bind_eq_some_iff] at he
      obtain ⟨k, _, he⟩ := he
      split at he
      · exact EffOK.pureS he (by have := ev_nm h hx; exact this)
      · cases he
    all_goals first
      | cases he
      | (simp only [Option.bind_eq_some_iff] at he
         obtain ⟨k, _, he⟩ := he
         split at he
         · simp only [Option.some.injEq] at he; subst he; exact EffOK.pure (by simp [D.nm, SC.names])
         · cases he)
      | (rename_i hx hi
         simp only [Option.bind_eq_some_iff] at he
         obtain ⟨k, _, he⟩ := he
         split at he
         · exact EffOK.pureS he (by have := ev_nm h hx; exact this)
         · cases he)
      | (simp only [Option.bind_eq_some_iff] at he
         obtain ⟨k, _, he⟩ := he
         split at he
         · split at he
           all_goals first
             | cases he
             | (split at he
                · simp only [Option.some.injEq] at he; subst he; exact EffOK.pure (by simp [D.nm, SC.names])
                · cases he)
         · cases he)
  · split at he
    · simp only [Option.bind_eq_some_iff, Option.some.injEq] at he
      obtain ⟨k, _, rfl⟩ := he
      exact EffOK.pure (by simp [D.nm, SC.names])
    · rename_i hx hi
      simp only [Option.bind_eq_some_iff] at he
      obtain ⟨k, _, he⟩ := he
      split at he
      · exact EffOK.bindPure he fun d hd n hn => ev_nm h hx n (partOf_nm hd n hn)
      · cases he
    · cases he
  · split at he
    · refine EffOK.bindPure he fun d hd => ?_
      simp only [Option.bind_eq_some_iff] at hd
      obtain ⟨d', _, h2⟩ := hd
      split at h2
      · rename_i hc
        simp only [Option.some.injEq] at h2
        subst h2
        rw [clean_nm hc]
        simp
      · cases h2
    · cases he
  · split at he
    · unfold callE at he
      split at he
      · unfold sameE at he
        split at he
        · split at he <;> first
            | (simp only [Option.some.injEq] at he; subst he; exact EffOK.pure (by simp [D.nm, SC.names]))
            | cases he
        · cases he
      split at he
      · simp only [Option.bind_eq_some_iff] at he
        obtain ⟨q, _, l, _, r, _, he⟩ := he
        split at he
        · rename_i h3
          simp only [Bool.and_eq_true] at h3
          simp only [Option.some.injEq] at he; subst he
          refine ⟨fun n hn => (by rw [cleanT_nm h3.1] at hn; cases hn), fun n b h => ?_⟩
          cases h
          simp only [flats, List.all_eq_true] at h3 ⊢
          exact fun x hx => clean_flat (h3.2.1 x hx)
        · cases he
      · simp only [Option.bind_eq_some_iff] at he
        obtain ⟨l, _, r, _, he⟩ := he
        split at he
        · rename_i h3
          simp only [Option.some.injEq] at he; subst he; exact EffOK.pure (by rw [cleanT_nm h3]; simp)
        · cases he
    · split at he
      · split at he <;> first
          | exact EffOK.pureS he (nm_nil rfl)
          | (simp only [Option.bind_eq_some_iff] at he; obtain ⟨_, _, he⟩ := he; exact EffOK.pureS he (nm_nil rfl))
          | cases he
      · cases he
    · unfold appendE at he
      split at he
      · split at he
        · split at he
          · simp only [Option.bind_eq_some_iff] at he
            obtain ⟨_, _, _, _, he⟩ := he
            split at he
            · simp only [Option.some.injEq] at he; subst he; exact EffOK.pure (by simp [D.nm, SC.names])
            · cases he
          · cases he
        · cases he
      · cases he
    · unfold copyE at he
      split at he
      · split at he
        · split at he
          · rename_i hm
            simp only [Option.bind_eq_some_iff, Option.map_eq_some_iff] at he
            obtain ⟨new, ⟨old, _, h8⟩, l', h9, rfl⟩ := he
            refine ⟨fun n hn => (by simp [D.nm, SC.names] at hn), fun n b hb => ?_⟩
            cases hb
            exact setAt_flats _ (h.m _ _ hm) (copyInto_flat h8) h9
          · cases he
        · cases he
      · cases he
    · exact minmax_eff he
    · exact minmax_eff he
    · cases he
  · split at he
    · split at he
      · rename_i d _ _ _ _ _ zl h2
        split at he
        · simp only [Option.some.injEq] at he; subst he
          refine EffOK.new rfl ?_
          have h4 := hz _ _ h2
          have : ∀ n, flats (repl n zl) = true := by
            intro n
            induction n with
            | zero => rfl
            | succ n ih => simp only [flats, repl, List.all_append, Bool.and_eq_true] at ih h4 ⊢; exact ⟨h4, ih⟩
          exact this _
        · cases he
      · cases he
    · cases he
  · cases he
end
/-- the value that is kept: behind an assumption it is the assumed one, if it is so -/
def valD (asm : List (Nat × Bool)) (i : Nat) (d : D) : Option D :=
  match asmAt asm i with
  | none => some d
  | some v => match d with
    | .s (.bool (.sym b)) => if b = v then some (.s (.bool (.lit v))) else none
    | _ => none

structure Del where
  val : D
  blk : Option (Nat × Blk)

def deadNow : Option (BV × Int) → Option Int
  | none => none
  | some (b, n) => match b.lb with
    | true => some n
    | false => none

def dkAt : Option (Nat × Int) → Nat → Option Int
  | none, _ => none
  | some (k, n), i => if i = k then some n else none

def del (c : Cfg) (z : Zs) (ops : Array Oper) (asm : List (Nat × Bool)) (dk : Option (Nat × Int)) (i : Nat) (o : Oper) (s : St) : Option Del :=
  match guardOf ops s o with
  | .bad => none
  | .skip => if dkAt dk i = none then some ⟨.tup [], none⟩ else none
  | .run => if deadNow (dieOf c s o) = dkAt dk i then
      (opEval c z s o).bind fun e => if e.req.all id then (match dieOf c s o with | none => valD asm i e.val | some _ => some e.val).map fun d => ⟨d, e.blk⟩ else none
    else none

def stepD (c : Cfg) (z : Zs) (ops : Array Oper) (asm : List (Nat × Bool)) (dk : Option (Nat × Int)) (i : Nat) (o : Oper) (s : St) : Option St :=
  (del c z ops asm dk i o s).bind fun x => put2 c s o x.val x.blk

def upT (t : Nat → Option D) (dst : Option Nat) (v : D) : Nat → Option D := match dst with | none => t | some d => updT t d v
def upM (m : Nat → Option Blk) (b : Option (Nat × Blk)) : Nat → Option Blk := match b with | none => m | some x => updM m x.1 x.2

end Go.Adit
