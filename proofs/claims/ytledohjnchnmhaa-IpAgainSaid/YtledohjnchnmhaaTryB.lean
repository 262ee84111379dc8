/- Part of the proofs of the laws: lemmas and contracts, no statement of its own. -/
import Derived.Test.YtledohjnchnmhaaBaseT
import Derived.Test.YtledohjnchnmhaaRows
set_option linter.unusedVariables false
set_option linter.unusedSimpArgs false
namespace Go.Adit
def tys : List (Nat × Ty) := [
  (2, .int .i64),
  (3, .int .i64),
  (4, .bool),
  (5, .int .u8),
  (6, .int .u8),
  (9, .str),
  (10, .str),
  (11, .str),
  (12, .int .u64),
  (15, .ptr 169),
  (16, .ptr 172),
  (17, .ptr 179),
  (21, .int .i32),
  (22, .arr 16 5 16),
  (23, .struct [(0, 4), (1, 22)] 17),
  (24, .struct [(0, 4), (1, 22)] 17),
  (25, .slice 36),
  (26, .struct [(0, 24), (17, 24), (34, 3), (35, 3), (36, 3), (37, 3), (38, 3), (39, 4), (40, 4), (41, 9), (42, 3), (43, 25), (44, 4), (45, 9)] 46),
  (27, .struct [(0, 24), (17, 24), (34, 3), (35, 3), (36, 3), (37, 3), (38, 3), (39, 4), (40, 4), (41, 9), (42, 3), (43, 25), (44, 4), (45, 9)] 46),
  (31, .int .i64),
  (35, .struct [(0, 3), (1, 9)] 2),
  (36, .struct [(0, 3), (1, 9)] 2),
  (43, .slice 5),
  (46, .int .u32),
  (47, .struct [(0, 3), (1, 3), (2, 46), (3, 9)] 4),
  (48, .struct [(0, 3), (1, 3), (2, 46), (3, 9)] 4),
  (49, .struct [(0, 24), (17, 9)] 18),
  (50, .struct [(0, 24), (17, 9)] 18),
  (57, .struct [(0, 27), (46, 3)] 47),
  (58, .struct [(0, 27), (46, 3)] 47),
  (61, .slice 3),
  (62, .ptr 127),
  (66, .ptr 130),
  (72, .slice 80),
  (73, .ptr 137),
  (75, .ptr 78),
  (76, .slice 140),
  (77, .struct [(0, 3), (1, 76)] 2),
  (78, .struct [(0, 3), (1, 76)] 2),
  (79, .struct [(0, 3), (1, 3), (2, 3), (3, 24)] 20),
  (80, .struct [(0, 3), (1, 3), (2, 3), (3, 24)] 20),
  (94, .int .u64),
  (103, .ptr 105),
  (104, .struct [(0, 9), (1, 3)] 2),
  (105, .struct [(0, 9), (1, 3)] 2),
  (111, .int .u64),
  (121, .arr 2 3 2),
  (126, .struct [(0, 3), (1, 3)] 2),
  (127, .struct [(0, 3), (1, 3)] 2),
  (129, .struct [(0, 3), (1, 3), (2, 128)] 3),
  (130, .struct [(0, 3), (1, 3), (2, 128)] 3),
  (132, .struct [(0, 3), (1, 3), (2, 3)] 3),
  (133, .struct [(0, 3), (1, 3), (2, 3)] 3),
  (136, .struct [(0, 3), (1, 3)] 2),
  (137, .struct [(0, 3), (1, 3)] 2),
  (139, .struct [(0, 24), (17, 3), (18, 3)] 19),
  (140, .struct [(0, 24), (17, 3), (18, 3)] 19),
  (141, .slice 9),
  (150, .arr 8 5 8),
  (152, .arr 2 121 4),
  (153, .arr 7 152 28),
  (154, .slice 61),
  (156, .ptr 158),
  (157, .struct [(0, 156), (1, 43)] 2),
  (158, .struct [(0, 156), (1, 43)] 2),
  (164, .ptr 5),
  (173, .int .u8),
  (174, .int .u8),
  (176, .int .i32),
  (177, .int .i32)]
def zs : Zs := { ext := 25, strs := 141, ints := 61 }
def eqTys : List Nat := [24, 22, 36, 48, 121]
end Go.Adit

/- The program's structs, as cells. -/
namespace Go.Adit
structure Addr where
  v6 : Bool
  b0 : UInt8
  b1 : UInt8
  b2 : UInt8
  b3 : UInt8
  b4 : UInt8
  b5 : UInt8
  b6 : UInt8
  b7 : UInt8
  b8 : UInt8
  b9 : UInt8
  b10 : UInt8
  b11 : UInt8
  b12 : UInt8
  b13 : UInt8
  b14 : UInt8
  b15 : UInt8

def encAddr (a : Addr) : List SC := [.bool (.sym a.v6), .byte a.b0, .byte a.b1, .byte a.b2, .byte a.b3, .byte a.b4, .byte a.b5, .byte a.b6, .byte a.b7, .byte a.b8, .byte a.b9, .byte a.b10, .byte a.b11, .byte a.b12, .byte a.b13, .byte a.b14, .byte a.b15]

def decAddr : List SC → Option Addr
  | [.bool v, x0, x1, x2, x3, x4, x5, x6, x7, x8, x9, x10, x11, x12, x13, x14, x15] =>
    match asY x0, asY x1, asY x2, asY x3, asY x4, asY x5, asY x6, asY x7, asY x8, asY x9, asY x10, asY x11, asY x12, asY x13, asY x14, asY x15 with
    | some y0, some y1, some y2, some y3, some y4, some y5, some y6, some y7, some y8, some y9, some y10, some y11, some y12, some y13, some y14, some y15 => some ⟨v.lb, y0, y1, y2, y3, y4, y5, y6, y7, y8, y9, y10, y11, y12, y13, y14, y15⟩
    | _, _, _, _, _, _, _, _, _, _, _, _, _, _, _, _ => none
  | _ => none

structure Packet where
  src : Addr
  dst : Addr
  proto : Int
  hop : Int
  cls : Int
  id : Int
  off : Int
  more : Bool
  still : Bool
  opts : (List UInt8)
  flow : Int
  exts : (List Ext)
  cut : Bool
  pay : (List UInt8)

def encPkt (own : Bool) (p : Packet) : List SC :=
  encAddr p.src ++ (encAddr p.dst ++ [.int .i64 (.sym p.proto), .int .i64 (.sym p.hop), .int .i64 (.sym p.cls), .int .i64 (.sym p.id), .int .i64 (.sym p.off), .bool (.sym p.more), .bool (.sym p.still), .str p.opts, .int .i64 (.sym p.flow), .exts p.exts own, .bool (.sym p.cut), .str p.pay])

def decPktTail (a b : Addr) : List SC → Option Packet
  | [.int .i64 x1, .int .i64 x2, .int .i64 x3, .int .i64 x4, .int .i64 x5, .bool b1, .bool b2, .str s1, .int .i64 x6, .exts l _, .bool b3, .str s2] =>
    some ⟨a, b, x1.li, x2.li, x3.li, x4.li, x5.li, b1.lb, b2.lb, s1, x6.li, l, b3.lb, s2⟩
  | [.int .i64 x1, .int .i64 x2, .int .i64 x3, .int .i64 x4, .int .i64 x5, .bool b1, .bool b2, .str s1, .int .i64 x6, .nils, .bool b3, .str s2] =>
    some ⟨a, b, x1.li, x2.li, x3.li, x4.li, x5.li, b1.lb, b2.lb, s1, x6.li, lxNil, b3.lb, s2⟩
  | _ => none

def decPkt (l : List SC) : Option Packet :=
  match takeN 17 l, takeN 17 (dropN 17 l) with
  | some a, some b => match decAddr a, decAddr b with
    | some x, some y => decPktTail x y (dropN 34 l)
    | _, _ => none
  | _, _ => none

structure Msg where
  type : Int
  code : Int
  rest : Int
  body : (List UInt8)

def encMsg (m : Msg) : List SC := [.int .i64 (.sym m.type), .int .i64 (.sym m.code), .int .u32 (.sym m.rest), .str m.body]

def decMsg : List SC → Option Msg
  | [.int .i64 x, .int .i64 y, .int .u32 z, .str s] => some ⟨x.li, y.li, z.li, s⟩
  | _ => none

def sB (x : Bool) : D := .s (.bool (.sym x))
def sI (x : Int) : D := .s (.int .i64 (.sym x))
def sS (x : (List UInt8)) : D := .s (.str x)
end Go.Adit

namespace Go.Adit
open Go.RowKit
set_option maxRecDepth 100000
theorem tryMixed : Go.Proofs.Try.prog.follows .mixedOrders = true := by kernel_rfl
theorem tryTys : (tys.all fun p => tyCheck Go.Proofs.Try.prog p.1 p.2) = true := by kernel_rfl
theorem tryZero : (tys.all fun p => zeroCheck Go.Proofs.Try.prog (cfg0 tys eqTys) zs p.1) = true := by kernel_rfl
theorem tryEq : (eqTys.all fun t => eqCheck Go.Proofs.Try.prog (cfg0 tys eqTys) zs t) = true := by kernel_rfl
theorem tryBts : (tys.all fun p => btsCheck Go.Proofs.Try.prog p.1 p.2) = true := by kernel_rfl
theorem tryBase : BaseOK Go.Proofs.Try.prog tys eqTys zs := ⟨tryMixed, tryTys, tryZero, tryEq, tryBts⟩
/-- with nil slices told as such -/
def zn : Zs := { zs with nilv := true }
theorem tryZeroN : (tys.all fun p => zeroCheck Go.Proofs.Try.prog (cfg0 tys eqTys) zn p.1) = true := by kernel_rfl
theorem tryEqN : (eqTys.all fun t => eqCheck Go.Proofs.Try.prog (cfg0 tys eqTys) zn t) = true := by kernel_rfl
theorem tryBaseN : BaseOK Go.Proofs.Try.prog tys eqTys zn := ⟨tryMixed, tryTys, tryZeroN, tryEqN, tryBts⟩
end Go.Adit

namespace Go.Adit
open Go.RowKit

/-- what is told of one function: for the run, and (below) for the proof -/
structure Entry where
  f : Nat
  lent : Option Nat
  call : List D → Option (D × List Bool)
  callm : List SC → List D → Option (D × List SC × List Bool)
  die : List SC → List D → Option (BV × Int)

def findE : List Entry → Nat → Option Entry
  | [], _ => none
  | e :: r, f => match Nat.beq e.f f with
    | true => some e
    | false => findE r f

def noDie : List SC → List D → Option (BV × Int) := fun _ _ => none
def noCall : List D → Option (D × List Bool) := fun _ => none
def noCallm : List SC → List D → Option (D × List SC × List Bool) := fun _ _ => none

def eCall (es : List Entry) (f : Nat) (args : List D) : Option (D × List Bool) :=
  match findE es f with
  | some e => e.call args
  | none => none
def eCallm (es : List Entry) (f : Nat) (cells : List SC) (args : List D) : Option (D × List SC × List Bool) :=
  match findE es f with
  | some e => e.callm cells args
  | none => none
def eLent (es : List Entry) (f : Nat) : Option Nat :=
  match findE es f with
  | some e => e.lent
  | none => none
def eDie (es : List Entry) (f : Nat) (cells : List SC) (args : List D) : Option (BV × Int) :=
  match findE es f with
  | some e => e.die cells args
  | none => none

def noKeep : Nat → Option (List Nat × List Nat) := fun _ => none

def mkCfg (tys : List (Nat × Ty)) (eqs : List Nat) (es : List Entry) (n : Nat) (keep : Nat → Option (List Nat × List Nat)) : Cfg :=
  { tys := tys, call := eCall es, n := n, eqs := eqs, keep := keep, lent := eLent es, callm := eCallm es, die := eDie es, hold := fun _ => true, pin := fun _ => false }

def bodyOf (f : Go.Func) : Go.Code := match f.body with | some (.scope b) => b | some b => b | none => .skip

def symF (tys : List (Nat × Ty)) (eqs : List Nat) (z : Zs) (es : List Entry) (f : Go.Func) (keep : Nat → Option (List Nat × List Nat)) (args : List D) : Tr :=
  sym (mkCfg tys eqs es f.ntmps keep) z f.results.toList 5000 [.code 0 (bodyOf f)] (st0 args)
def symM (tys : List (Nat × Ty)) (eqs : List Nat) (z : Zs) (es : List Entry) (f : Go.Func) (keep : Nat → Option (List Nat × List Nat)) (cells : List SC) (args : List D) : Tr :=
  sym (mkCfg tys eqs es f.ntmps keep) z f.results.toList 5000 [.code 0 (bodyOf f)] (stM cells args)
def symR (tys : List (Nat × Ty)) (eqs : List Nat) (z : Zs) (es : List Entry) (f : Go.Func) (keep : Nat → Option (List Nat × List Nat)) (i : Nat) (v : List (Nat × D)) (m : List (Nat × Blk)) : Tr :=
  sym (mkCfg tys eqs es f.ntmps keep) z f.results.toList 5000 (roundOf (bodyOf f) i) (St.of v m)
end Go.Adit

namespace Go.Adit
open Go.RowKit

structure EntryOK (P : Program) (e : Entry) : Prop where
  call : ∀ args r req, e.lent = none → (∀ b n, e.die [] args = some (b, n) → b.lb = false) → e.call args = some (r, req) → (∀ b ∈ req, b = true) → Con P e.f args r
  callm : ∀ cells args r cells' req, e.lent = some cells.length → (∀ b n, e.die cells args = some (b, n) → b.lb = false) → e.callm cells args = some (r, cells', req) → (∀ b ∈ req, b = true) → ConM P e.f cells args r cells'
  die : ∀ args b n, e.lent = none → e.die [] args = some (b, n) → b.lb = true → ConDie P e.f args n
  diem : ∀ cells args b n, e.lent = some cells.length → e.die cells args = some (b, n) → b.lb = true → ConMDie P e.f cells args n

theorem findE_of : ∀ {es : List Entry} {f : Nat} {e : Entry}, findE es f = some e → e ∈ es ∧ e.f = f
  | [], _, _, h => by simp [findE] at h
  | x :: r, f, e, h => by
    unfold findE at h
    split at h
    · rename_i hb; simp only [Option.some.injEq] at h; subst h; exact ⟨.head _, Nat.eq_of_beq_eq_true hb⟩
    · obtain ⟨h1, h2⟩ := findE_of h; exact ⟨.tail _ h1, h2⟩

theorem envOf {P : Program} {tys : List (Nat × Ty)} {eqs : List Nat} {z : Zs} (B : BaseOK P tys eqs z) {es : List Entry} (h : ∀ e ∈ es, EntryOK P e) (n : Nat) (keep : Nat → Option (List Nat × List Nat)) : Env P (mkCfg tys eqs es n keep) z := by
  refine mkEnv B ?_ ?_ ?_ ?_ (fun f h => by cases h)
  · intro f args r req h1 h2 h3 h4
    simp only [mkCfg, eCall, eLent, eDie] at h1 h2 h3
    split at h3
    · rename_i e he
      rw [he] at h1 h2
      obtain ⟨hm, rfl⟩ := findE_of he
      exact (h e hm).call args r req h1 h2 h3 h4
    · cases h3
  · intro f cells args r cells' req h1 h2 h3 h4
    simp only [mkCfg, eCallm, eLent, eDie] at h1 h2 h3
    split at h3
    · rename_i e he
      rw [he] at h1 h2
      obtain ⟨hm, rfl⟩ := findE_of he
      exact (h e hm).callm cells args r cells' req h1 h2 h3 h4
    · cases h3
  · intro f args b n h1 h2 h3
    simp only [mkCfg, eLent, eDie] at h1 h2
    split at h2
    · rename_i e he
      rw [he] at h1
      obtain ⟨hm, rfl⟩ := findE_of he
      exact (h e hm).die args b n h1 h2 h3
    · cases h2
  · intro f cells args b n h1 h2 h3
    simp only [mkCfg, eLent, eDie] at h1 h2
    split at h2
    · rename_i e he
      rw [he] at h1
      obtain ⟨hm, rfl⟩ := findE_of he
      exact (h e hm).diem cells args b n h1 h2 h3
    · cases h2

/-- of a function that neither panics nor writes -/
theorem EntryOK.pure {P : Program} {f : Nat} {call : List D → Option (D × List Bool)} (h : ∀ args r req, call args = some (r, req) → (∀ b ∈ req, b = true) → Con P f args r) :
    EntryOK P ⟨f, none, call, noCallm, noDie⟩ :=
  ⟨fun args r req _ _ h1 h2 => h args r req h1 h2, fun _ _ _ _ _ h1 => (nomatch h1), fun _ _ _ _ h1 => (nomatch h1), fun _ _ _ _ h1 => (nomatch h1)⟩

section
variable {P : Program} {tys : List (Nat × Ty)} {eqs : List Nat} {z : Zs} {es : List Entry}

theorem con_flat (B : BaseOK P tys eqs z) (h : ∀ e ∈ es, EntryOK P e) {f : FuncId} {fn : Func} (hf : P.funcs[f]? = some fn) (hb : fn.body = some (bodyOf fn)) (hok : regsOk (mkCfg tys eqs es fn.ntmps noKeep) (bodyOf fn) = true)
    (hn : (fn.name == "runtime.NumGoroutine") = false) {args : List D} (ha : Nat.ble args.length fn.ntmps = true) (hbare : args.all D.bare = true) {r : D} {t : Tr} (ht : symF tys eqs z es fn noKeep args = t)
    (hh : t.holds (fun d _ => d.norm = r.norm) (fun _ => False) (fun _ _ _ => False)) : Con P f args r := by
  have E := envOf B h fn.ntmps noKeep
  have hh' : (symF tys eqs z es fn noKeep args).holds (fun d _ => d.norm = r.norm) (fun _ => False) (Arr (γ := fun _ => Empty) (fun _ g => g.elim) fun _ _ => True) := by
    rw [ht]
    clear ht
    induction t with
    | ret d l => exact hh
    | die n => exact hh
    | ite b x y ihx ihy => exact ⟨fun e => ihx (hh.1 e), fun e => ihy (hh.2 e)⟩
    | req l k ih => exact ⟨hh.1, ih hh.2⟩
    | loop i v m => exact hh.elim
    | back i v m => exact hh.elim
    | fail => exact hh.elim
  exact con_tree E (zeroFlat E) (body := bodyOf fn) ⟨hf, .inl hb, hok, hn, rfl⟩ (Nat.le_of_ble_eq_true ha) hbare (γ := fun _ => Empty) (fun _ g => g.elim) (fun _ g => g.elim) 5000 hh' (fun i g => g.elim)

/-- a function with loops: at each loop's head what is known is told by T, and M falls from head to head -/
theorem con_loop (B : BaseOK P tys eqs z) (h : ∀ e ∈ es, EntryOK P e) {f : FuncId} {fn : Func} (keep : Nat → Option (List Nat × List Nat)) (hf : P.funcs[f]? = some fn) (hb : fn.body = some (bodyOf fn)) (hok : regsOk (mkCfg tys eqs es fn.ntmps keep) (bodyOf fn) = true)
    (hn : (fn.name == "runtime.NumGoroutine") = false) {args : List D} (ha : Nat.ble args.length fn.ntmps = true) (hbare : args.all D.bare = true) {r : D}
    {γ : Nat → Type} (T : (i : Nat) → γ i → List (Nat × D) × List (Nat × Blk)) (M : (i : Nat) → γ i → Nat)
    (hmain : (symF tys eqs z es fn keep args).holds (fun d _ => d.norm = r.norm) (fun _ => False) (Arr T fun _ _ => True))
    (hround : ∀ i g, i < nloops (bodyOf fn) → (symR tys eqs z es fn keep i (T i g).1 (T i g).2).holds (fun d _ => d.norm = r.norm) (fun _ => False) (Arr T fun j g' => M j g' < M i g)) : Con P f args r := by
  have E := envOf B h fn.ntmps keep
  exact con_tree E (zeroFlat E) (body := bodyOf fn) ⟨hf, .inl hb, hok, hn, rfl⟩ (Nat.le_of_ble_eq_true ha) hbare T M 5000 hmain hround

/-- what a representation of the arguments says may be used -/
theorem con_given {f : FuncId} {fn : Func} (hf : P.funcs[f]? = some fn) (hn : (fn.name == "runtime.NumGoroutine") = false) (hb : fn.body.isNone = false) {args : List D} {r : D}
    (h : ∀ w vs, RepLs (fun _ => none) (fun _ => True) w args vs → Con P f args r) : Con P f args r :=
  ⟨⟨fn, hf, hn, hb⟩, fun w vs hv => (h w vs hv).2 w vs hv⟩

theorem conM_given {f : FuncId} {fn : Func} (hf : P.funcs[f]? = some fn) (hn : (fn.name == "runtime.NumGoroutine") = false) (hb : fn.body.isNone = false) {cells cells' : List SC} {args : List D} {r : D}
    (h : ∀ w b cs vs, RepL (onlyB b) (fun _ => True) w cells cs → RepLs (onlyB b) (fun _ => True) w args vs → ConM P f cells args r cells') : ConM P f cells args r cells' :=
  ⟨⟨fn, hf, hn, hb⟩, fun w b cs ty vs hw h1 hv => (h w b cs vs h1 hv).2 w b cs ty vs hw h1 hv⟩

theorem conMDie_given {f : FuncId} {fn : Func} (hf : P.funcs[f]? = some fn) (hn : (fn.name == "runtime.NumGoroutine") = false) (hb : fn.body.isNone = false) {cells : List SC} {args : List D} {e : Int}
    (h : ∀ w b cs vs, RepL (onlyB b) (fun _ => True) w cells cs → RepLs (onlyB b) (fun _ => True) w args vs → ConMDie P f cells args e) : ConMDie P f cells args e :=
  ⟨⟨fn, hf, hn, hb⟩, fun w b cs ty vs hw h1 hv => (h w b cs vs h1 hv).2 w b cs ty vs hw h1 hv⟩

theorem holds_flat {t : Tr} {R : D → List SC → Prop} {Rd : Int → Prop} {A : Nat → List (Nat × D) → List (Nat × Blk) → Prop} (hh : t.holds R Rd (fun _ _ _ => False)) : t.holds R Rd A := by
  induction t with
  | ret d l => exact hh
  | die n => exact hh
  | ite b x y ihx ihy => exact ⟨fun e => ihx (hh.1 e), fun e => ihy (hh.2 e)⟩
  | req l k ih => exact ⟨hh.1, ih hh.2⟩
  | loop i v m => exact hh.elim
  | back i v m => exact hh.elim
  | fail => exact hh.elim

theorem conM_flat (B : BaseOK P tys eqs z) (h : ∀ e ∈ es, EntryOK P e) {f : FuncId} {fn : Func} (hf : P.funcs[f]? = some fn) (hb : fn.body = some (bodyOf fn)) (hok : regsOk (mkCfg tys eqs es fn.ntmps noKeep) (bodyOf fn) = true)
    (hn : (fn.name == "runtime.NumGoroutine") = false) {cells cells' : List SC} {args : List D} (ha : Nat.ble (args.length + 1) fn.ntmps = true) (hbare : args.all D.bare = true) (hfl : flats cells = true) (hcb : cells.all SC.bare = true)
    {r : D} {t : Tr} (ht : symM tys eqs z es fn noKeep cells args = t)
    (hh : t.holds (fun d l => d.norm = r.norm ∧ l.map SC.norm = cells'.map SC.norm ∧ l ≠ []) (fun _ => False) (fun _ _ _ => False)) : ConM P f cells args r cells' := by
  have E := envOf B h fn.ntmps noKeep
  have hh' : (symM tys eqs z es fn noKeep cells args).holds (fun d l => d.norm = r.norm ∧ l.map SC.norm = cells'.map SC.norm ∧ l ≠ []) (fun _ => False) (Arr (γ := fun _ => Empty) (fun _ g => g.elim) fun _ _ => True) := by
    rw [ht]; exact holds_flat hh
  exact conM_tree E (zeroFlat E) (body := bodyOf fn) ⟨hf, .inl hb, hok, hn, rfl⟩ (Nat.le_of_ble_eq_true ha) hbare hfl hcb (γ := fun _ => Empty) (fun _ g => g.elim) (fun _ g => g.elim) 5000 hh' (fun i g => g.elim)

theorem conMDie_flat (B : BaseOK P tys eqs z) (h : ∀ e ∈ es, EntryOK P e) {f : FuncId} {fn : Func} (hf : P.funcs[f]? = some fn) (hb : fn.body = some (bodyOf fn)) (hok : regsOk (mkCfg tys eqs es fn.ntmps noKeep) (bodyOf fn) = true)
    (hn : (fn.name == "runtime.NumGoroutine") = false) {cells : List SC} {args : List D} (ha : Nat.ble (args.length + 1) fn.ntmps = true) (hbare : args.all D.bare = true) (hfl : flats cells = true) (hcb : cells.all SC.bare = true)
    {e : Int} {t : Tr} (ht : symM tys eqs z es fn noKeep cells args = t)
    (hh : t.holds (fun _ _ => False) (fun n => n = e) (fun _ _ _ => False)) : ConMDie P f cells args e := by
  have E := envOf B h fn.ntmps noKeep
  have hh' : (symM tys eqs z es fn noKeep cells args).holds (fun _ _ => False) (fun n => n = e) (Arr (γ := fun _ => Empty) (fun _ g => g.elim) fun _ _ => True) := by
    rw [ht]; exact holds_flat hh
  exact conMDie_tree E (zeroFlat E) (body := bodyOf fn) ⟨hf, .inl hb, hok, hn, rfl⟩ (Nat.le_of_ble_eq_true ha) hbare hfl hcb (γ := fun _ => Empty) (fun _ g => g.elim) (fun _ g => g.elim) 5000 hh' (fun i g => g.elim)

/-- arguments told anew -/
theorem ConM.args {f : FuncId} {cells cells0 cells' cells1 : List SC} {args args' : List D} {r : D} (h : ConM P f cells args r cells') (hc : ∀ b w vs, RepL (onlyB b) (fun _ => True) w cells0 vs → RepL (onlyB b) (fun _ => True) w cells vs)
    (ha : ∀ b w vs, RepLs (onlyB b) (fun _ => True) w args' vs → RepLs (onlyB b) (fun _ => True) w args vs) (hc' : cells'.map SC.norm = cells1.map SC.norm) : ConM P f cells0 args' r cells1 :=
  ⟨h.1, fun w b cs ty vs hw h1 hv => (h.2 w b cs ty vs hw (hc b w cs h1) (ha b w vs hv)).mono fun e w' ⟨v, cs', ty', g1, g2, g3, g4, g5⟩ => ⟨v, cs', ty', g1, g2, g3, repL_norm.1 (hc' ▸ repL_norm.2 g4), g5⟩⟩

theorem ConMDie.args {f : FuncId} {cells cells0 : List SC} {args args' : List D} {n : Int} (h : ConMDie P f cells args n) (hc : ∀ b w vs, RepL (onlyB b) (fun _ => True) w cells0 vs → RepL (onlyB b) (fun _ => True) w cells vs)
    (ha : ∀ b w vs, RepLs (onlyB b) (fun _ => True) w args' vs → RepLs (onlyB b) (fun _ => True) w args vs) : ConMDie P f cells0 args' n :=
  ⟨h.1, fun w b cs ty vs hw h1 hv => h.2 w b cs ty vs hw (hc b w cs h1) (ha b w vs hv)⟩

theorem Con.args {f : FuncId} {args args' : List D} {r : D} (h : Con P f args r) (ha : ∀ w vs, RepLs (fun _ => none) (fun _ => True) w args' vs → RepLs (fun _ => none) (fun _ => True) w args vs) : Con P f args' r :=
  ⟨h.1, fun w vs hv => h.2 w vs (ha w vs hv)⟩
end

end Go.Adit

namespace Go.Adit
open Go.RowKit
section
variable {β : Nat → Option Nat} {own : Nat → Prop} {w : World}

theorem decAddr_rep {l : List SC} {a : Addr} (h : decAddr l = some a) {vs : List Value} (hv : RepL β own w l vs) : RepL β own w (encAddr a) vs := by
  unfold decAddr at h
  split at h
  · rename_i b x0 x1 x2 x3 x4 x5 x6 x7 x8 x9 x10 x11 x12 x13 x14 x15
    split at h
    · rename_i h0 h1 h2 h3 h4 h5 h6 h7 h8 h9 h10 h11 h12 h13 h14 h15
      simp only [Option.some.injEq] at h
      subst h
      match vs, hv with
      | [_, _, _, _, _, _, _, _, _, _, _, _, _, _, _, _, _], ⟨g, g0, g1, g2, g3, g4, g5, g6, g7, g8, g9, g10, g11, g12, g13, g14, g15, _⟩ =>
        exact ⟨g, asY_rep h0 g0, asY_rep h1 g1, asY_rep h2 g2, asY_rep h3 g3, asY_rep h4 g4, asY_rep h5 g5, asY_rep h6 g6, asY_rep h7 g7, asY_rep h8 g8, asY_rep h9 g9, asY_rep h10 g10, asY_rep h11 g11, asY_rep h12 g12,
          asY_rep h13 g13, asY_rep h14 g14, asY_rep h15 g15, trivial⟩
    · cases h
  · cases h

theorem exts_bare {l : List Ext} {o : Bool} {v : Value} (h : RepS β own w (.exts l o) v) : RepS β own w (.exts l false) v := by
  obtain ⟨a, cap, e1, e2, e3⟩ := h
  exact ⟨a, cap, e1, e2, e3.imp id fun ⟨b, off, f1, f2, f3, f5⟩ => ⟨b, off, f1, f2, ⟨f3.1, fun e => (nomatch e)⟩, f5⟩⟩

theorem decTail_rep {x y : Addr} {l : List SC} {p : Packet} (h : decPktTail x y l = some p) {vs : List Value} (hv : RepL β own w l vs) :
    p.src = x ∧ p.dst = y ∧ RepL β own w [.int .i64 (.sym p.proto), .int .i64 (.sym p.hop), .int .i64 (.sym p.cls), .int .i64 (.sym p.id), .int .i64 (.sym p.off), .bool (.sym p.more), .bool (.sym p.still), .str p.opts, .int .i64 (.sym p.flow), .exts p.exts false, .bool (.sym p.cut), .str p.pay] vs := by
  unfold decPktTail at h
  split at h
  · simp only [Option.some.injEq] at h
    subst h
    match vs, hv with
    | [_, _, _, _, _, _, _, _, _, _, _, _], ⟨g0, g1, g2, g3, g4, g5, g6, g7, g8, g9, g10, g11, _⟩ => exact ⟨rfl, rfl, g0, g1, g2, g3, g4, g5, g6, g7, g8, exts_bare g9, g10, g11, trivial⟩
  · simp only [Option.some.injEq] at h
    subst h
    match vs, hv with
    | [_, _, _, _, _, _, _, _, _, _, _, _], ⟨g0, g1, g2, g3, g4, g5, g6, g7, g8, g9, g10, g11, _⟩ => exact ⟨rfl, rfl, g0, g1, g2, g3, g4, g5, g6, g7, g8, ⟨none, 0, g9, (show ((0 : Nat) : Int) ≤ imax by decide), .inl rfl⟩, g10, g11, trivial⟩
  · cases h

theorem dropN_dropN : ∀ (m n : Nat) (l : List SC), dropN n (dropN m l) = dropN (m + n) l
  | 0, n, l => by simp [dropN]
  | m + 1, n, [] => by rw [Nat.add_right_comm]; cases n <;> simp [dropN]
  | m + 1, n, x :: l => by rw [Nat.add_right_comm]; simp only [dropN]; exact dropN_dropN m n l

theorem decPkt_rep {l : List SC} {p : Packet} (h : decPkt l = some p) {vs : List Value} (hv : RepL β own w l vs) : RepL β own w (encPkt false p) vs := by
  unfold decPkt at h
  split at h
  · rename_i a b h1 h2
    split at h
    · rename_i x y h3 h4
      obtain ⟨g1, g2⟩ := RepL.take _ hv h1
      obtain ⟨g3, g4⟩ := RepL.take _ (RepL.drop 17 hv) h2
      have g5 := RepL.drop 34 hv
      obtain ⟨e1, e2, e3⟩ := decTail_rep h g5
      subst e1
      subst e2
      have := RepL.append (decAddr_rep h3 g1) (RepL.append (decAddr_rep h4 g3) e3)
      have e : vs.take 17 ++ ((vs.drop 17).take 17 ++ vs.drop 34) = vs := by
        rw [show (34 : Nat) = 17 + 17 from rfl, ← List.drop_drop, List.take_append_drop, List.take_append_drop]
      rw [e] at this
      exact this
    · cases h
  · cases h

theorem decMsg_rep {l : List SC} {m : Msg} (h : decMsg l = some m) {vs : List Value} (hv : RepL β own w l vs) : RepL β own w (encMsg m) vs := by
  unfold decMsg at h
  split at h
  · simp only [Option.some.injEq] at h
    subst h
    match vs, hv with
    | [_, _, _, _], ⟨g0, g1, g2, g3, _⟩ => exact ⟨g0, g1, g2, g3, trivial⟩
  · cases h
end
end Go.Adit
