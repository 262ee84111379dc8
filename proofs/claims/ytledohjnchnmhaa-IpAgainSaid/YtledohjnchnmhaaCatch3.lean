/- Part of the proofs of the laws: lemmas and contracts, no statement of its own. -/
import Derived.Test.YtledohjnchnmhaaCatch
import Derived.Test.YtledohjnchnmhaaRead4
set_option linter.unusedVariables false
set_option linter.unusedSimpArgs false
namespace Go.Adit
open Go.RowKit Go.Proofs
def r4dies (b : List UInt8) : Bool := decide (20 ≤ b.length) && (r4err b).isSome
def r4code (b : List UInt8) : Int := (r4err b).getD 0
end Go.Adit

namespace Go.Adit
def restOf : Code → Code
  | .seq _ (.seq _ r) => r
  | c => c
def z27 : List SC := [.bool (.lit false), .int .u8 (.lit 0), .int .u8 (.lit 0), .int .u8 (.lit 0), .int .u8 (.lit 0), .int .u8 (.lit 0), .int .u8 (.lit 0), .int .u8 (.lit 0), .int .u8 (.lit 0), .int .u8 (.lit 0), .int .u8 (.lit 0), .int .u8 (.lit 0), .int .u8 (.lit 0), .int .u8 (.lit 0), .int .u8 (.lit 0), .int .u8 (.lit 0), .int .u8 (.lit 0), .bool (.lit false), .int .u8 (.lit 0), .int .u8 (.lit 0), .int .u8 (.lit 0), .int .u8 (.lit 0), .int .u8 (.lit 0), .int .u8 (.lit 0), .int .u8 (.lit 0), .int .u8 (.lit 0), .int .u8 (.lit 0), .int .u8 (.lit 0), .int .u8 (.lit 0), .int .u8 (.lit 0), .int .u8 (.lit 0), .int .u8 (.lit 0), .int .u8 (.lit 0), .int .u8 (.lit 0), .int .i64 (.lit 0), .int .i64 (.lit 0), .int .i64 (.lit 0), .int .i64 (.lit 0), .int .i64 (.lit 0), .bool (.lit false), .bool (.lit false), .str (lsLit []), .int .i64 (.lit 0), .exts lxNil true, .bool (.lit false), .str (lsLit [])]
def v29 (b : (List UInt8)) : List (Nat × D) := [(0, .s (.str b)), (2, .s (.ptr 1000000 0)), (3, .s (.ptr 1000001 0))]
def m29 : List (Nat × Blk) := [(1000000, ⟨z27, 27⟩), (1000001, ⟨[.int .i64 (.lit 0)], 31⟩)]
def hold29 (s : St) : Bool :=
  match s.m 1000000, s.m 1000001 with
  | some a, some b => Nat.beq a.cells.length 46 && Nat.beq b.cells.length 1
  | _, _ => false
def cfg29 (tys : List (Nat × Ty)) (eqs : List Nat) (es : List Entry) : Cfg := { mkCfg tys eqs es 37 noKeep with hold := hold29 }
end Go.Adit

namespace Go.Adit
open Go.RowKit Go.Proofs
set_option maxRecDepth 100000
set_option maxHeartbeats 4000000
theorem seqS_gen {P : Program} {x y : Code} {a : Act} {cs : List Frame} {w : World} {Q : Exit → Act → List Frame → World → Prop} (a' : Act) (w' : World)
    (h : ∀ Q' : Exit → Act → World → Prop, Q' .normal a' w' → x.wp P Q' a w) (hy : y.wpS P Q a' cs w') : (x.seq y).wpS P Q a cs w :=
  wpS_seq (wpS_of_wp (h _ hy))
theorem seq_gen {P : Program} {x y : Code} {a : Act} {w : World} {Q : Exit → Act → World → Prop} (a' : Act) (w' : World)
    (h : ∀ Q' : Exit → Act → World → Prop, Q' .normal a' w' → x.wp P Q' a w) (hy : y.wp P Q a' w') : (x.seq y).wp P Q a w := wp_seq (h _ hy)

theorem region_lin {P : Program} {w0 : Base} {N : Nat} {s s' : St} {β : Nat → Option Nat} {a : Act} {w : World} {c : Cfg} {z : Zs} {ops : Array Oper} (E : Env P c z) (hN : c.n = N) {id : Nat}
    (hr : regRun c z ops [] ops.toList 0 s [] none = .ok s' []) (hR : Rel w0 N s β a w) {Q : Exit → Act → World → Prop} (h : ∀ β' a' w', Rel w0 N s' β' a' w' → Q .normal a' w') : (Code.region id ops false).wp P Q a w := by
  obtain ⟨_, _, k2⟩ := regRun_ok _ _ _ _ _ _ _ hr (fun _ h => nomatch h) (asmOK_none _ _ _ fun _ _ => rfl)
  exact region_sound E (zeroFlat E) hN (fun h => nomatch h) k2 hR h

/-- another frame over the same blocks -/
theorem Rel.frame {w0 : Base} {N N' : Nat} {s : St} {β : Nat → Option Nat} {a a' : Act} {w : World} (h : Rel w0 N s β a w) {t' : Nat → Option D} {dl : List Deferred} (hsz : a'.tmps.size = N')
    (ht : ∀ t d, t' t = some d → ∃ v, a'.tmps[t]? = some v ∧ RepD β (fun b => w0.heap.size ≤ b) w d v) (hd : a'.defers = dl) : Rel { w0 with dl := dl } N' ⟨t', s.m⟩ β a' w :=
  ⟨hsz, ht, h.mem, h.dom, h.nhid, h.inj, h.new, ⟨h.bel.os, h.bel.tape, h.bel.output, h.bel.size, h.bel.block⟩, hd, h.lnt⟩

theorem weakL_none {c : Cfg} (hg : ∀ n i, c.gk n i = none) {n : Nat} : ∀ (l : List SC) (i : Nat), weakL c n i l = l
  | [], _ => rfl
  | x :: l, i => by
    have : ∀ nm, weakS c n i nm x = x := by
      intro nm
      unfold weakS
      split
      · rw [hg]
      · rfl
    simp only [weakL, this, weakL_none hg l]

/-- these blocks alone -/
theorem Rel.two {w0 : Base} {N : Nat} {s : St} {β : Nat → Option Nat} {a : Act} {w : World} (h : Rel w0 N s β a w) {k1 k2 : Nat} {b1 b2 : Blk} (h1 : s.m k1 = some b1) (h2 : s.m k2 = some b2) :
    ∃ β', Rel w0 N (St.of [] [(k1, b1), (k2, b2)]) β' a w := by
  have hv : (Adit.view (cfg0 [] []) s ([], [k1, k2]) (.back 0)).holds (fun _ _ => False) (fun _ => False) (fun _ v m => v = [] ∧ m = [(k1, b1), (k2, b2)]) := by
    simp [Adit.view, viewT, viewM, h1, h2, Tr.holds, weakL_none (c := cfg0 [] []) (fun _ _ => rfl)]
  obtain ⟨v, m, β', ⟨e1, e2⟩, hR⟩ := h.ofView hv
  subst e1 e2
  exact ⟨β', hR⟩

theorem takeCons {n : Nat} (l : List SC) (h : l.length = n + 1) : ∃ x r, l = x :: r ∧ r.length = n :=
  match l, h with
  | x :: r, h => ⟨x, r, rfl, by simpa using h⟩
theorem cells46 (l : List SC) (h : l.length = 46) : ∃ x0 x1 x2 x3 x4 x5 x6 x7 x8 x9 x10 x11 x12 x13 x14 x15 x16 x17 x18 x19 x20 x21 x22 x23 x24 x25 x26 x27 x28 x29 x30 x31 x32 x33 x34 x35 x36 x37 x38 x39 x40 x41 x42 x43 x44 x45, l = x0 :: x1 :: x2 :: x3 :: x4 :: x5 :: x6 :: x7 :: x8 :: x9 :: x10 :: x11 :: x12 :: x13 :: x14 :: x15 :: x16 :: x17 :: x18 :: x19 :: x20 :: x21 :: x22 :: x23 :: x24 :: x25 :: x26 :: x27 :: x28 :: x29 :: x30 :: x31 :: x32 :: x33 :: x34 :: x35 :: x36 :: x37 :: x38 :: x39 :: x40 :: x41 :: x42 :: x43 :: x44 :: x45 :: [] := by
  obtain ⟨x0, l1, rfl, h1⟩ := takeCons (n := 45) l h
  obtain ⟨x1, l2, rfl, h2⟩ := takeCons (n := 44) l1 h1
  obtain ⟨x2, l3, rfl, h3⟩ := takeCons (n := 43) l2 h2
  obtain ⟨x3, l4, rfl, h4⟩ := takeCons (n := 42) l3 h3
  obtain ⟨x4, l5, rfl, h5⟩ := takeCons (n := 41) l4 h4
  obtain ⟨x5, l6, rfl, h6⟩ := takeCons (n := 40) l5 h5
  obtain ⟨x6, l7, rfl, h7⟩ := takeCons (n := 39) l6 h6
  obtain ⟨x7, l8, rfl, h8⟩ := takeCons (n := 38) l7 h7
  obtain ⟨x8, l9, rfl, h9⟩ := takeCons (n := 37) l8 h8
  obtain ⟨x9, l10, rfl, h10⟩ := takeCons (n := 36) l9 h9
  obtain ⟨x10, l11, rfl, h11⟩ := takeCons (n := 35) l10 h10
  obtain ⟨x11, l12, rfl, h12⟩ := takeCons (n := 34) l11 h11
  obtain ⟨x12, l13, rfl, h13⟩ := takeCons (n := 33) l12 h12
  obtain ⟨x13, l14, rfl, h14⟩ := takeCons (n := 32) l13 h13
  obtain ⟨x14, l15, rfl, h15⟩ := takeCons (n := 31) l14 h14
  obtain ⟨x15, l16, rfl, h16⟩ := takeCons (n := 30) l15 h15
  obtain ⟨x16, l17, rfl, h17⟩ := takeCons (n := 29) l16 h16
  obtain ⟨x17, l18, rfl, h18⟩ := takeCons (n := 28) l17 h17
  obtain ⟨x18, l19, rfl, h19⟩ := takeCons (n := 27) l18 h18
  obtain ⟨x19, l20, rfl, h20⟩ := takeCons (n := 26) l19 h19
  obtain ⟨x20, l21, rfl, h21⟩ := takeCons (n := 25) l20 h20
  obtain ⟨x21, l22, rfl, h22⟩ := takeCons (n := 24) l21 h21
  obtain ⟨x22, l23, rfl, h23⟩ := takeCons (n := 23) l22 h22
  obtain ⟨x23, l24, rfl, h24⟩ := takeCons (n := 22) l23 h23
  obtain ⟨x24, l25, rfl, h25⟩ := takeCons (n := 21) l24 h24
  obtain ⟨x25, l26, rfl, h26⟩ := takeCons (n := 20) l25 h25
  obtain ⟨x26, l27, rfl, h27⟩ := takeCons (n := 19) l26 h26
  obtain ⟨x27, l28, rfl, h28⟩ := takeCons (n := 18) l27 h27
  obtain ⟨x28, l29, rfl, h29⟩ := takeCons (n := 17) l28 h28
  obtain ⟨x29, l30, rfl, h30⟩ := takeCons (n := 16) l29 h29
  obtain ⟨x30, l31, rfl, h31⟩ := takeCons (n := 15) l30 h30
  obtain ⟨x31, l32, rfl, h32⟩ := takeCons (n := 14) l31 h31
  obtain ⟨x32, l33, rfl, h33⟩ := takeCons (n := 13) l32 h32
  obtain ⟨x33, l34, rfl, h34⟩ := takeCons (n := 12) l33 h33
  obtain ⟨x34, l35, rfl, h35⟩ := takeCons (n := 11) l34 h34
  obtain ⟨x35, l36, rfl, h36⟩ := takeCons (n := 10) l35 h35
  obtain ⟨x36, l37, rfl, h37⟩ := takeCons (n := 9) l36 h36
  obtain ⟨x37, l38, rfl, h38⟩ := takeCons (n := 8) l37 h37
  obtain ⟨x38, l39, rfl, h39⟩ := takeCons (n := 7) l38 h38
  obtain ⟨x39, l40, rfl, h40⟩ := takeCons (n := 6) l39 h39
  obtain ⟨x40, l41, rfl, h41⟩ := takeCons (n := 5) l40 h40
  obtain ⟨x41, l42, rfl, h42⟩ := takeCons (n := 4) l41 h41
  obtain ⟨x42, l43, rfl, h43⟩ := takeCons (n := 3) l42 h42
  obtain ⟨x43, l44, rfl, h44⟩ := takeCons (n := 2) l43 h43
  obtain ⟨x44, l45, rfl, h45⟩ := takeCons (n := 1) l44 h44
  obtain ⟨x45, l46, rfl, h46⟩ := takeCons (n := 0) l45 h45
  obtain rfl := List.length_eq_zero_iff.1 h46
  exact ⟨x0, x1, x2, x3, x4, x5, x6, x7, x8, x9, x10, x11, x12, x13, x14, x15, x16, x17, x18, x19, x20, x21, x22, x23, x24, x25, x26, x27, x28, x29, x30, x31, x32, x33, x34, x35, x36, x37, x38, x39, x40, x41, x42, x43, x44, x45, rfl⟩
theorem cells1 (l : List SC) (h : l.length = 1) : ∃ x, l = [x] := by
  obtain ⟨x, r, rfl, h'⟩ := takeCons (n := 0) l h
  obtain rfl := List.length_eq_zero_iff.1 h'
  exact ⟨x, rfl⟩

def fr74 (b2 b3 : Nat) (n : Int) (l : List Value) : Act := { tmps := ⟨[.pointer (some ⟨b2, 0, none⟩), .pointer (some ⟨b3, 0, none⟩), .iface 31 (.int .i64 n)] ++ l⟩, defers := [] }
def cfg74 : Cfg := mkCfg tys eqTys [] 18 noKeep
theorem env74 : Env Try.prog cfg74 zs := envOf tryBase (es := []) (fun _ h => nomatch h) 18 noKeep
def t74 (n : Int) : List (Nat × D) := [(0, .s (.ptr 1000000 0)), (1, .s (.ptr 1000001 0)), (3, .s (.int .i64 (.sym n)))]
def ops74 : Code → Array Oper
  | .seq _ (.seq _ (.seq _ (.seq _ (.region _ o _)))) => o
  | _ => #[]
def outSt : Out → St
  | .ok s _ => s
  | _ => St.of [] []
theorem run74 (n : Int) (x0 x1 x2 x3 x4 x5 x6 x7 x8 x9 x10 x11 x12 x13 x14 x15 x16 x17 x18 x19 x20 x21 x22 x23 x24 x25 x26 x27 x28 x29 x30 x31 x32 x33 x34 x35 x36 x37 x38 x39 x40 x41 x42 x43 x44 x45 y : SC) (ty2 ty3 : Nat) : ∃ s', regRun cfg74 zs (ops74 (bodyOf Try.f74)) [] (ops74 (bodyOf Try.f74)).toList 0 (St.of (t74 n) [(1000000, ⟨x0 :: x1 :: x2 :: x3 :: x4 :: x5 :: x6 :: x7 :: x8 :: x9 :: x10 :: x11 :: x12 :: x13 :: x14 :: x15 :: x16 :: x17 :: x18 :: x19 :: x20 :: x21 :: x22 :: x23 :: x24 :: x25 :: x26 :: x27 :: x28 :: x29 :: x30 :: x31 :: x32 :: x33 :: x34 :: x35 :: x36 :: x37 :: x38 :: x39 :: x40 :: x41 :: x42 :: x43 :: x44 :: x45 :: [], ty2⟩), (1000001, ⟨[y], ty3⟩)]) [] none = .ok s' [] ∧
    s'.m 1000000 = some ⟨z27, ty2⟩ ∧ s'.m 1000001 = some ⟨[.int .i64 (.sym n)], ty3⟩ :=
  ⟨outSt (regRun cfg74 zs (ops74 (bodyOf Try.f74)) [] (ops74 (bodyOf Try.f74)).toList 0 (St.of (t74 n) [(1000000, ⟨x0 :: x1 :: x2 :: x3 :: x4 :: x5 :: x6 :: x7 :: x8 :: x9 :: x10 :: x11 :: x12 :: x13 :: x14 :: x15 :: x16 :: x17 :: x18 :: x19 :: x20 :: x21 :: x22 :: x23 :: x24 :: x25 :: x26 :: x27 :: x28 :: x29 :: x30 :: x31 :: x32 :: x33 :: x34 :: x35 :: x36 :: x37 :: x38 :: x39 :: x40 :: x41 :: x42 :: x43 :: x44 :: x45 :: [], ty2⟩), (1000001, ⟨[y], ty3⟩)]) [] none), (by kernel_rfl), (by kernel_rfl), (by kernel_rfl)⟩

theorem catch74 {w0 : Base} {N1 : Nat} {s1 : St} {β1 : Nat → Option Nat} {a1 : Act} {w : World} {N : Nat} (hR : Rel w0 N1 s1 β1 a1 w) (hlb : w0.lb = pinB N) {bk2 bk3 : Blk} (h2 : s1.m 1000000 = some bk2) (h3 : s1.m 1000001 = some bk3)
    (l2 : bk2.cells.length = 46) (l3 : bk3.cells.length = 1) (n : Int) (hn : inR .i64 n) :
    CallsD Try.prog 74 #[.pointer (some ⟨N, 0, none⟩), .pointer (some ⟨N + 1, 0, none⟩)] (.panicking (errChain n)) w fun e u' w' => e = .returned (.tuple #[]) ∧ u' = .panicking [{ v := .iface 31 (.int .i64 n), recovered := true }] ∧
      ∃ s β a, Rel { w0 with dl := [] } 18 s β a w' ∧ s.m 1000000 = some ⟨z27, bk2.ty⟩ ∧ s.m 1000001 = some ⟨[.int .i64 (.sym n)], bk3.ty⟩ := by
  obtain ⟨β, hR0⟩ := hR.two h2 h3
  obtain ⟨cc2, ty2⟩ := bk2
  obtain ⟨cc3, ty3⟩ := bk3
  obtain ⟨x0, x1, x2, x3, x4, x5, x6, x7, x8, x9, x10, x11, x12, x13, x14, x15, x16, x17, x18, x19, x20, x21, x22, x23, x24, x25, x26, x27, x28, x29, x30, x31, x32, x33, x34, x35, x36, x37, x38, x39, x40, x41, x42, x43, x44, x45, rfl⟩ := cells46 cc2 l2
  obtain ⟨y, rfl⟩ := cells1 cc3 l3
  have p2 : β 1000000 = some N := by
    obtain ⟨b, _, _, e, _⟩ := hR0.mem 1000000 _ rfl
    rw [e, hR0.lnt 1000000 N (by decide) (by rw [hlb]; rfl) b e]
  have p3 : β 1000001 = some (N + 1) := by
    obtain ⟨b, _, _, e, _⟩ := hR0.mem 1000001 _ rfl
    rw [e, hR0.lnt 1000001 (N + 1) (by decide) (by rw [hlb]; rfl) b e]
  clear hR h2 h3 l2 l3
  refine callsD_of_wpS Try.func74 rfl fun c₀ cs hu => ?_
  apply wpS_seq
  apply wpS_region
  simp [wpOpsS, go_sem, recoverD, hu, errChain, Try.ntmps74, Exit.thenS]
  have hu : Try.prog.underlying 20 = some (.interface (Try.prog.methodsAt 20)) := by kernel_rfl
  have hnl : ∀ w, (binOp .eql 20 (.iface 31 (.int .i64 n)) .nilIface).run Try.prog w = .ok (.bool false) w := fun w => run_eql_held_nil w 20 31 (.int .i64 n) hu
  clear hu
  have hta : ∀ (v : Value) (w : World), (Instr.typeAssert (.iface 31 v) 20 31 true).run Try.prog w = .ok (.tuple #[v, .bool true]) w := fun v w => by kernel_rfl
  rw [show (#[Value.pointer (some ⟨N, 0, none⟩), Value.pointer (some ⟨N + 1, 0, none⟩)] ++ ((Array.replicate 16 undef).setIfInBounds 3 (Value.iface 31 (Value.int IntKind.i64 n))).setIfInBounds 0 (Value.iface 31 (Value.int IntKind.i64 n)) : Array Value) =
      #[.pointer (some ⟨N, 0, none⟩), .pointer (some ⟨N + 1, 0, none⟩), .iface 31 (.int .i64 n), undef, undef, .iface 31 (.int .i64 n), undef, undef, undef, undef, undef, undef, undef, undef, undef, undef, undef, undef] from rfl]
  refine seqS_gen (fr74 N (N + 1) n [undef, undef, .iface 31 (.int .i64 n), .iface 31 (.int .i64 n), .bool false, undef, undef, undef, undef, undef, undef, undef, undef, undef, undef]) w (fun Q' hQ' => ?_) ?_
  · clear hR0 p2 p3
    go_wp2
    exact hQ'
  refine seqS_gen (fr74 N (N + 1) n [.int .i64 n, .bool true, .iface 31 (.int .i64 n), .iface 31 (.int .i64 n), .bool false, .tuple #[.int .i64 n, .bool true], .iface 31 (.int .i64 n), .tuple #[.int .i64 n, .bool true], .int .i64 n, .bool true, undef, undef, undef, undef, undef]) w (fun Q' hQ' => ?_) ?_
  · clear hR0 p2 p3
    unfold fr74
    go_wp2
    exact hQ'
  refine seqS_gen (fr74 N (N + 1) n [.int .i64 n, .bool true, .iface 31 (.int .i64 n), .iface 31 (.int .i64 n), .bool false, .tuple #[.int .i64 n, .bool true], .iface 31 (.int .i64 n), .tuple #[.int .i64 n, .bool true], .int .i64 n, .bool true, .bool true, .bool false, undef, undef, undef]) w (fun Q' hQ' => ?_) ?_
  · clear hR0 p2 p3
    unfold fr74
    go_wp2
    exact hQ'
  refine wpS_of_wp ?_
  obtain ⟨s', hr, q2, q3⟩ := run74 n x0 x1 x2 x3 x4 x5 x6 x7 x8 x9 x10 x11 x12 x13 x14 x15 x16 x17 x18 x19 x20 x21 x22 x23 x24 x25 x26 x27 x28 x29 x30 x31 x32 x33 x34 x35 x36 x37 x38 x39 x40 x41 x42 x43 x44 x45 y ty2 ty3
  have hR2 := hR0.frame (a' := fr74 N (N + 1) n [.int .i64 n, .bool true, .iface 31 (.int .i64 n), .iface 31 (.int .i64 n), .bool false, .tuple #[.int .i64 n, .bool true], .iface 31 (.int .i64 n), .tuple #[.int .i64 n, .bool true], .int .i64 n, .bool true, .bool true, .bool false, undef, undef, undef]) (t' := lookT (t74 n)) (N' := 18) (dl := []) rfl
    (fun t d ht => by
      simp only [t74, lookT] at ht
      split at ht
      · rename_i e; obtain rfl := Nat.eq_of_beq_eq_true e; cases ht; exact ⟨_, rfl, _, p2, rfl⟩
      · split at ht
        · rename_i e; obtain rfl := Nat.eq_of_beq_eq_true e; cases ht; exact ⟨_, rfl, _, p3, rfl⟩
        · split at ht
          · rename_i e; obtain rfl := Nat.eq_of_beq_eq_true e; cases ht; exact ⟨_, rfl, rfl, hn⟩
          · cases ht) rfl
  refine region_lin env74 rfl hr hR2 fun β' a' w' h' => ?_
  cases c₀
  simp only [bodyPostS]
  exact ⟨h'.dfr, _, rfl, .tuple #[], by simp [results, Try.results74], rfl, rfl, s', ⟨β', a', h'⟩, q2, q3⟩
end Go.Adit
