/- Part of the proofs of the laws: lemmas and contracts, no statement of its own. -/
import Derived.Test.YtledohjnchnmhaaB6a
import Derived.Test.YtledohjnchnmhaaSum2
set_option linter.unusedVariables false
set_option linter.unusedSimpArgs false
namespace Go.Adit
def hasRf : Code → Bool
  | .rangeFunc .. => true
  | .seq a b => hasRf a || hasRf b
  | .block _ b => hasRf b
  | _ => false
def spineL : Code → List Code
  | .seq x y => match hasRf x with | true => [] | false => x :: spineL y
  | _ => []
def spineX : Code → Code
  | .seq x y => match hasRf x with | true => x | false => spineX y
  | c => c
def spineT : Code → Code
  | .seq x y => match hasRf x with | true => y | false => spineT y
  | c => c
def rfAs : Code → Code
  | .seq _ (.block _ (.rangeFunc _ _ asg _)) => asg
  | c => c
def rfBd : Code → Code
  | .seq _ (.block _ (.rangeFunc _ _ _ (.block _ bd))) => bd
  | c => c
def seq1 : Code → Code
  | .seq a _ => a
  | c => c
def seq2 : Code → Code
  | .seq _ b => b
  | c => c
def opsOf : Code → Array Oper
  | .region _ o _ => o
  | _ => #[]
def kp21 : Nat → Option (List Nat × List Nat)
  | 0 => some ([1, 5, 6, 8, 9], [1, 8, 9])
  | _ => none
end Go.Adit

namespace Go.Adit
open Go.RowKit Go.Proofs Go.Shelf
set_option maxRecDepth 100000
theorem nloops_rf21 : nloops ((spineX (bodyOf Try.f21)).seq (spineT (bodyOf Try.f21))) = 0 := by kernel_rfl
def es21 : List Entry := [e24, e54, e55, e56, e57, e58]
theorem es21_ok : ∀ e ∈ es21, EntryOK Try.prog e := by
  intro e he
  rcases List.mem_cons.1 he with rfl | he; exact ok24 con24
  rcases List.mem_cons.1 he with rfl | he; exact ok54 con54
  rcases List.mem_cons.1 he with rfl | he; exact ok55 con55
  rcases List.mem_cons.1 he with rfl | he; exact ok56
  rcases List.mem_cons.1 he with rfl | he; exact ok57 con57
  rcases List.mem_singleton.1 he with rfl; exact ok58
def cfg21 : Cfg := mkCfg tys eqTys es21 158 kp21
theorem env21 : Env Try.prog cfg21 zs := envOf tryBase es21_ok 158 kp21

theorem repL_int {β : Nat → Option Nat} {own : Nat → Prop} {w : World} {k : IntKind} {n : Int} {cs : List Value} (h : RepL β own w [.int k (.sym n)] cs) : cs = [.int k n] ∧ inR k n := by
  match cs, h with
  | [_], ⟨⟨rfl, h⟩, _⟩ => exact ⟨rfl, h⟩
theorem repL_str {β : Nat → Option Nat} {own : Nat → Prop} {w : World} {s : (List UInt8)} {cs : List Value} (h : RepL β own w [.str s] cs) : cs = [.string ⟨⟨s⟩⟩] ∧ (s.length : Int) ≤ imax := by
  match cs, h with
  | [_], ⟨⟨rfl, h⟩, _⟩ => exact ⟨rfl, h⟩
theorem repL_ext {β : Nat → Option Nat} {own : Nat → Prop} {w : World} {k : IntKind} {n : Int} {s : (List UInt8)} {cs : List Value} (h : RepL β own w [.int k (.sym n), .str s] cs) : cs = [.int k n, .string ⟨⟨s⟩⟩] := by
  match cs, h with
  | [_, _], ⟨⟨rfl, _⟩, ⟨rfl, _⟩, _⟩ => rfl
def outSt2 : Out → St
  | .ok s _ => s
  | _ => St.of [] []

/-! the blocks of a round -/
def lbR (b8 b9 bx : Nat) : Nat → Option Nat := fun n => if n = 1000008 then some b8 else if n = 1000009 then some b9 else if n = 1000011 then some bx else none
def bR (W : World) (b8 b9 bx : Nat) : Base := ⟨W, fun k => k = b8 ∨ k = b9 ∨ k = bx, [], lbR b8 b9 bx⟩
def vR : List (Nat × D) := [(8, .s (.ptr 1000008 0)), (9, .s (.ptr 1000009 0)), (11, .s (.ptr 1000011 0))]
def mR (kd : Int) (rs : (List UInt8)) (x : Ext) (t8 t9 tx : Nat) : List (Nat × Blk) := [(1000008, ⟨[.int .i64 (.sym kd)], t8⟩), (1000009, ⟨[.str rs], t9⟩), (1000011, ⟨[.int .i64 (.sym x.kind), .str x.body], tx⟩)]

theorem lbR_some {b8 b9 bx n b : Nat} (h : lbR b8 b9 bx n = some b) : (n = 1000008 ∧ b = b8) ∨ (n = 1000009 ∧ b = b9) ∨ (n = 1000011 ∧ b = bx) := by
  unfold lbR at h
  split at h
  · rename_i e; exact .inl ⟨e, by simpa using h.symm⟩
  · split at h
    · rename_i e; exact .inr (.inl ⟨e, by simpa using h.symm⟩)
    · split at h
      · rename_i e; exact .inr (.inr ⟨e, by simpa using h.symm⟩)
      · cases h

theorem relR {W : World} {b8 b9 bx t8 t9 tx : Nat} {kd : Int} {rs : (List UInt8)} {x : Ext} {a : Act} (h89 : b8 ≠ b9) (h8x : b8 ≠ bx) (h9x : b9 ≠ bx) (hk : inR .i64 kd) (hrs : (rs.length : Int) ≤ imax) (hx : GoodE x)
    (r8 : W.heap[b8]? = some (.cells ⟨[.int .i64 kd]⟩ t8 (0, 0))) (r9 : W.heap[b9]? = some (.cells ⟨[.string ⟨⟨rs⟩⟩]⟩ t9 (0, 0))) (rx : W.heap[bx]? = some (.cells ⟨[.int .i64 x.kind, .string ⟨⟨x.body⟩⟩]⟩ tx (0, 0)))
    (hsz : a.tmps.size = 158) (hd : a.defers = []) (p8 : a.tmps[8]? = some (.pointer (some ⟨b8, 0, none⟩))) (p9 : a.tmps[9]? = some (.pointer (some ⟨b9, 0, none⟩))) (px : a.tmps[11]? = some (.pointer (some ⟨bx, 0, none⟩))) :
    Rel (bR W b8 b9 bx) 158 (St.of vR (mR kd rs x t8 t9 tx)) (lbR b8 b9 bx) a W := by
  have lt : ∀ {b : Nat} {o : Obj}, W.heap[b]? = some o → b < W.heap.size := fun h => (Array.getElem?_eq_some_iff.1 h).1
  have e8 : lbR b8 b9 bx 1000008 = some b8 := rfl
  have e9 : lbR b8 b9 bx 1000009 = some b9 := rfl
  have ex : lbR b8 b9 bx 1000011 = some bx := rfl
  have hxl : (x.body.length : Int) ≤ imax := by have := hx.1; unfold imax; omega
  refine ⟨hsz, fun t d ht => ?_, fun n blk hn => ?_, fun n hh hn => ?_, fun n hh => ?_, fun n n' b h h' => ?_, fun n b h => ?_, Kept.refl, hd, fun n b _ hb b' h' => ?_⟩
  · have ht : lookT vR t = some d := ht
    simp only [vR, lookT] at ht
    split at ht
    · rename_i e; obtain rfl := Nat.eq_of_beq_eq_true e; cases ht; exact ⟨_, p8, _, e8, rfl⟩
    · split at ht
      · rename_i e; obtain rfl := Nat.eq_of_beq_eq_true e; cases ht; exact ⟨_, p9, _, e9, rfl⟩
      · split at ht
        · rename_i e; obtain rfl := Nat.eq_of_beq_eq_true e; cases ht; exact ⟨_, px, _, ex, rfl⟩
        · cases ht
  · have hn : lookM (mR kd rs x t8 t9 tx) n = some blk := hn
    simp only [mR, lookM] at hn
    split at hn
    · rename_i e; obtain rfl := Nat.eq_of_beq_eq_true e; cases hn; exact ⟨_, _, _, e8, r8, ⟨⟨rfl, hk⟩, trivial⟩, rfl⟩
    · split at hn
      · rename_i e; obtain rfl := Nat.eq_of_beq_eq_true e; cases hn; exact ⟨_, _, _, e9, r9, ⟨⟨rfl, hrs⟩, trivial⟩, rfl⟩
      · split at hn
        · rename_i e; obtain rfl := Nat.eq_of_beq_eq_true e; cases hn; exact ⟨_, _, _, ex, rx, ⟨⟨rfl, hx.2⟩, ⟨rfl, hxl⟩, trivial⟩, rfl⟩
        · cases hn
  · have hn : lookM (mR kd rs x t8 t9 tx) n = none := hn
    cases hl : lbR b8 b9 bx n with
    | none => rfl
    | some b =>
      rcases lbR_some hl with ⟨rfl, _⟩ | ⟨rfl, _⟩ | ⟨rfl, _⟩ <;> cases hn
  · show lookM (mR kd rs x t8 t9 tx) n = none
    simp only [mR, lookM]
    split
    · rename_i e; obtain rfl := Nat.eq_of_beq_eq_true e; exact absurd hh (by decide)
    · split
      · rename_i e; obtain rfl := Nat.eq_of_beq_eq_true e; exact absurd hh (by decide)
      · split
        · rename_i e; obtain rfl := Nat.eq_of_beq_eq_true e; exact absurd hh (by decide)
        · rfl
  · rcases lbR_some h with ⟨r1, r2⟩ | ⟨r1, r2⟩ | ⟨r1, r2⟩ <;> rcases lbR_some h' with ⟨r3, r4⟩ | ⟨r3, r4⟩ | ⟨r3, r4⟩ <;> omega
  · rcases lbR_some h with ⟨r1, r2⟩ | ⟨r1, r2⟩ | ⟨r1, r2⟩ <;> subst r2
    · exact ⟨.inr (.inl rfl), lt r8⟩
    · exact ⟨.inr (.inr (.inl rfl)), lt r9⟩
    · exact ⟨.inr (.inr (.inr rfl)), lt rx⟩
  · have hb : lbR b8 b9 bx n = some b := hb
    rw [hb] at h'; cases h'; rfl

def ext1 (kd : Int) (x : Ext) : (List UInt8) := lsCat (lsCat (fPut (liConv .u64 kd) 1) (fPut (liConv .u64 (liQuo .i64 (liLen x.body) (liLit 8))) 1)) x.body
def req20 (kd : Int) (rs : (List UInt8)) (x : Ext) : List Bool := [(lbRoom (fPut (liConv .u64 kd) 1) (fPut (liConv .u64 (liQuo .i64 (liLen x.body) (liLit 8))) 1)), (lbRoom (lsCat (fPut (liConv .u64 kd) 1) (fPut (liConv .u64 (liQuo .i64 (liLen x.body) (liLit 8))) 1)) x.body), (lbRoom (lsCat (lsCat (fPut (liConv .u64 kd) 1) (fPut (liConv .u64 (liQuo .i64 (liLen x.body) (liLit 8))) 1)) x.body) rs)]
noncomputable def ops20 : Array Oper := opsOf (seq1 (rfBd (spineX (bodyOf Try.f21))))
noncomputable def ops21 : Array Oper := opsOf (seq2 (rfBd (spineX (bodyOf Try.f21))))
theorem run20 (kd : Int) (rs : (List UInt8)) (x : Ext) (t8 t9 tx : Nat) : ∃ s', regRun cfg21 zs ops20 [] ops20.toList 0 (St.of vR (mR kd rs x t8 t9 tx)) [] none = .ok s' (req20 kd rs x) ∧
    ∃ s'', regRun cfg21 zs ops21 [] ops21.toList 0 s' [] none = .ok s'' [] ∧ s''.m 1000008 = some ⟨[.int .i64 (.sym x.kind)], t8⟩ ∧ s''.m 1000009 = some ⟨[.str (lsCat (ext1 kd x) rs)], t9⟩ ∧ s''.m 1000011 = some ⟨[.int .i64 (.sym x.kind), .str x.body], tx⟩ :=
  ⟨outSt2 (regRun cfg21 zs ops20 [] ops20.toList 0 (St.of vR (mR kd rs x t8 t9 tx)) [] none), (by kernel_rfl),
    outSt2 (regRun cfg21 zs ops21 [] ops21.toList 0 (outSt2 (regRun cfg21 zs ops20 [] ops20.toList 0 (St.of vR (mR kd rs x t8 t9 tx)) [] none)) [] none), (by kernel_rfl), (by kernel_rfl), (by kernel_rfl), (by kernel_rfl)⟩

/-- one round, over the three blocks -/
theorem round21 {W : World} {b8 b9 bx t8 t9 tx : Nat} {kd : Int} {rs : (List UInt8)} {x : Ext} {a : Act} (h89 : b8 ≠ b9) (h8x : b8 ≠ bx) (h9x : b9 ≠ bx) (hk : inR .i64 kd) (hrs : (rs.length : Int) + 5000 ≤ imax) (hx : GoodE x)
    (r8 : W.heap[b8]? = some (.cells ⟨[.int .i64 kd]⟩ t8 (0, 0))) (r9 : W.heap[b9]? = some (.cells ⟨[.string ⟨⟨rs⟩⟩]⟩ t9 (0, 0))) (rx : W.heap[bx]? = some (.cells ⟨[.int .i64 x.kind, .string ⟨⟨x.body⟩⟩]⟩ tx (0, 0)))
    (hsz : a.tmps.size = 158) (hd : a.defers = []) (p8 : a.tmps[8]? = some (.pointer (some ⟨b8, 0, none⟩))) (p9 : a.tmps[9]? = some (.pointer (some ⟨b9, 0, none⟩))) (px : a.tmps[11]? = some (.pointer (some ⟨bx, 0, none⟩)))
    {l n : Nat} {Q : Exit → Act → World → Prop} (hQo : ¬ LetsOut Q)
    (hQ : ∀ a' W' t8' t9' tx', Kept (bR W b8 b9 bx) W' → W'.heap[b8]? = some (.cells ⟨[.int .i64 x.kind]⟩ t8' (0, 0)) → W'.heap[b9]? = some (.cells ⟨[.string ⟨⟨lsCat (ext1 kd x) rs⟩⟩]⟩ t9' (0, 0)) →
      W'.heap[bx]? = some (.cells ⟨[.int .i64 x.kind, .string ⟨⟨x.body⟩⟩]⟩ tx' (0, 0)) → Q .normal a' W') :
    (rfBd (spineX (bodyOf Try.f21))).wpIn (Fence.wide.inRound l) n Try.prog Q a W := by
  have hR := relR h89 h8x h9x hk (by unfold imax at hrs ⊢; omega) hx r8 r9 rx hsz hd p8 p9 px
  obtain ⟨s', q1, s'', q2, m8, m9, mx⟩ := run20 kd rs x t8 t9 tx
  have eb : rfBd (spineX (bodyOf Try.f21)) = .seq (.region 20 ops20 true) (.region 21 ops21 false) := by kernel_rfl
  rw [eb]
  refine wpIn_seq ?_
  have hreq : ∀ b ∈ req20 kd rs x, b = true := by
    have hb := hx.1
    unfold imax at hrs
    refine List.forall_mem_cons.2 ⟨?_, List.forall_mem_cons.2 ⟨?_, List.forall_mem_cons.2 ⟨?_, fun _ h => nomatch h⟩⟩⟩
    all_goals simp only [lbRoom_t, lsCat, List.length_append, fPut_len]; omega
  have lo : ∀ {K : Act → World → Prop}, ¬ LetsOut (Exit.then K Q) := fun ⟨a, w, h⟩ => hQo ⟨a, w, h⟩
  refine region_inRound env21 rfl (fun _ => by kernel_rfl) (by kernel_rfl) q1 hreq hR lo fun β' a' W' hR' => ?_
  refine region_inRound (draw := false) env21 rfl (fun h => nomatch h) (by kernel_rfl) q2 (fun _ h => nomatch h) hR' hQo fun β2 a2 W2 hR2 => ?_
  have g : ∀ n b b' : Nat, 1000000 ≤ n → lbR b8 b9 bx n = some b → β2 n = some b' → b' = b := fun n b b' hn hb h => hR2.lnt n b hn hb b' h
  obtain ⟨c8, cs8, ty8, e8, h8, v8, _⟩ := hR2.mem _ _ m8
  obtain ⟨c9, cs9, ty9, e9, h9, v9, _⟩ := hR2.mem _ _ m9
  obtain ⟨cx, csx, tyx, ex, hxx, vx, _⟩ := hR2.mem _ _ mx
  have gc8 : c8 = b8 := g 1000008 b8 c8 (by omega) (show lbR b8 b9 bx 1000008 = some b8 from rfl) e8
  have gc9 : c9 = b9 := g 1000009 b9 c9 (by omega) (show lbR b8 b9 bx 1000009 = some b9 from rfl) e9
  have gcx : cx = bx := g 1000011 bx cx (by omega) (show lbR b8 b9 bx 1000011 = some bx from rfl) ex
  subst gc8 gc9 gcx
  obtain ⟨rfl, _⟩ := repL_int v8
  obtain ⟨rfl, _⟩ := repL_str v9
  obtain rfl := repL_ext vx
  exact hQ a2 W2 ty8 ty9 tyx hR2.bel h8 h9 hxx
end Go.Adit
