/- Part of the proofs of the laws: lemmas and contracts, no statement of its own. -/
import Derived.Test.YtledohjnchnmhaaRight
set_option linter.unusedVariables false
set_option linter.unusedSimpArgs false
namespace Go.Adit
open Go.RowKit Go.Proofs
set_option maxRecDepth 100000
def fAEq (a b : Addr) : Bool := lbAnd (lbEqB a.v6 b.v6) (lbAnd (lbEqI (liOfByte a.b0) (liOfByte b.b0)) (lbAnd (lbEqI (liOfByte a.b1) (liOfByte b.b1)) (lbAnd (lbEqI (liOfByte a.b2) (liOfByte b.b2)) (lbAnd (lbEqI (liOfByte a.b3) (liOfByte b.b3)) (lbAnd (lbEqI (liOfByte a.b4) (liOfByte b.b4)) (lbAnd (lbEqI (liOfByte a.b5) (liOfByte b.b5)) (lbAnd (lbEqI (liOfByte a.b6) (liOfByte b.b6)) (lbAnd (lbEqI (liOfByte a.b7) (liOfByte b.b7)) (lbAnd (lbEqI (liOfByte a.b8) (liOfByte b.b8)) (lbAnd (lbEqI (liOfByte a.b9) (liOfByte b.b9)) (lbAnd (lbEqI (liOfByte a.b10) (liOfByte b.b10)) (lbAnd (lbEqI (liOfByte a.b11) (liOfByte b.b11)) (lbAnd (lbEqI (liOfByte a.b12) (liOfByte b.b12)) (lbAnd (lbEqI (liOfByte a.b13) (liOfByte b.b13)) (lbAnd (lbEqI (liOfByte a.b14) (liOfByte b.b14)) (lbEqI (liOfByte a.b15) (liOfByte b.b15)))))))))))))))))
def fEqX : List Ext → List Ext → Bool
  | [], [] => true
  | x :: l, y :: r => lbAnd (lbEqI x.kind y.kind) (lbEqS x.body y.body) && fEqX l r
  | _, _ => false
def fSame (p q : Packet) : Bool := fEqX p.exts q.exts && fAEq p.src q.src && fAEq p.dst q.dst && lbEqI p.proto q.proto && lbEqI p.hop q.hop && lbEqI p.cls q.cls && lbEqI p.id q.id && lbEqI p.off q.off && lbEqB p.more q.more && lbEqB p.still q.still && lbEqS p.opts q.opts && lbEqI p.flow q.flow && lbEqB p.cut q.cut && lbEqS p.pay q.pay

theorem fEqX_len : ∀ {x y : List Ext}, x.length ≠ y.length → fEqX x y = false
  | [], [], h => absurd rfl h
  | _ :: _, [], _ => rfl
  | [], _ :: _, _ => rfl
  | x :: l, y :: r, h => by
    simp only [fEqX]
    rw [fEqX_len (x := l) (y := r) (by simpa using h), Bool.and_false]
theorem fEqX_drop (i : Nat) (l r : List Ext) (h : i < l.length) (h' : i < r.length) : fEqX (l.drop i) (r.drop i) = (lbAnd (lbEqI (lxKind l (i : Int)) (lxKind r (i : Int))) (lbEqS (lxBody l (i : Int)) (lxBody r (i : Int))) && fEqX (l.drop (i + 1)) (r.drop (i + 1))) := by
  rw [List.drop_eq_getElem_cons h, List.drop_eq_getElem_cons h']
  have e1 : l.getD i ⟨0, []⟩ = l[i] := by simp [List.getD_eq_getElem?_getD, h]
  have e2 : r.getD i ⟨0, []⟩ = r[i] := by simp [List.getD_eq_getElem?_getD, h']
  rw [show lxKind l (i : Int) = (l.getD i ⟨0, []⟩).kind from rfl, show lxKind r (i : Int) = (r.getD i ⟨0, []⟩).kind from rfl, show lxBody l (i : Int) = (l.getD i ⟨0, []⟩).body from rfl, show lxBody r (i : Int) = (r.getD i ⟨0, []⟩).body from rfl, e1, e2]
  rfl
theorem fEqX_self : ∀ x : List Ext, fEqX x x = true
  | [] => rfl
  | x :: l => by simp [fEqX, fEqX_self l, lbAnd, lbEqI, lbEqS]
theorem extsS_len {l : List Ext} {o : Bool} {β : Nat → Option Nat} {own : Nat → Prop} {w : World} {v : Value} (h : RepS β own w (.exts l o) v) : (l.length : Int) ≤ imax := by
  obtain ⟨_, _, _, h, _⟩ := h; exact h

def kp78 : Nat → Option (List Nat × List Nat)
  | 0 => some ([0, 1, 12, 13], [])
  | _ => none
structure E0 (x y : List Ext) where
  i : Nat
  hi : i ≤ x.length
  hl : x.length = y.length
  hm : (x.length : Int) ≤ imax
  hn : fEqX x y = fEqX (x.drop i) (y.drop i)
def G78 (x y : List Ext) : Nat → Type
  | 0 => E0 x y
  | _ => Empty
def T78 (x y : List Ext) : (i : Nat) → G78 x y i → List (Nat × D) × List (Nat × Blk)
  | 0, g => let g : E0 x y := g; ([(0, .s (.exts x false)), (1, .s (.exts y false)), (12, .s (.int .i64 (.sym (liLenX x)))), (13, .s (.int .i64 (.sym (g.i : Int))))], [])
  | _ + 1, g => nomatch g
def M78 (x y : List Ext) : (i : Nat) → G78 x y i → Nat
  | 0, g => let g : E0 x y := g; x.length - g.i
  | _ + 1, g => nomatch g
theorem con78 (x y : List Ext) : Con Try.prog 78 [.s (.exts x false), .s (.exts y false)] (.s (.bool (.sym (fEqX x y)))) :=
  con_given Try.func78 (by kernel_rfl) (by kernel_rfl) fun w vs hv => by
  have hlen : (x.length : Int) ≤ imax := match vs, hv with
    | [_, _], ⟨h0, _, _⟩ => extsS_len h0
  refine con_loop tryBase (es := []) (fun _ h => nomatch h) kp78 Try.func78 (by kernel_rfl) (by kernel_rfl) (by kernel_rfl) (by kernel_rfl) (by kernel_rfl) (T78 x y) (M78 x y) ?_ ?_
  · have ht : symF tys eqTys zs [] Try.f78 kp78 [.s (.exts x false), .s (.exts y false)] = (.ite (lbNot (lbEqI (liLenX x) (liLenX y)))
 (.ret (.s (.bool (.lit false))) [])
 (.loop 0 [(0, .s (.exts x false)), (1, .s (.exts y false)), (12, .s (.int .i64 (.sym (liLenX x)))), (13, .s (.int .i64 (.lit 0)))] [])) := by kernel_rfl
    rw [ht]
    refine ⟨fun h => ?_, fun h => ?_⟩
    · rw [lbNot_t, lbEqI_f] at h
      refine sBl_norm (Eq.symm (fEqX_len ?_))
      intro e; exact h (by simp only [liLenX]; rw [e])
    · rw [lbNot_f, lbEqI_t] at h
      have h' : (x.length : Int) = y.length := h
      exact ⟨(⟨0, Nat.zero_le _, by omega, hlen, rfl⟩ : E0 x y), trivial, rfl, rfl⟩
  · intro i g hi
    match i, g with
    | 0, g =>
      obtain ⟨i, hi, hl, hm, hn⟩ := (g : E0 x y)
      have ht : symR tys eqTys zs [] Try.f78 kp78 0 [(0, .s (.exts x false)), (1, .s (.exts y false)), (12, .s (.int .i64 (.sym (liLenX x)))), (13, .s (.int .i64 (.sym (i : Int))))] [] =
        (.ite (lbLt i (liLenX x))
 (.req [(lbLe (liLit 0) i), (lbLt i (liLenX x)), (lbLe (liLit 0) i), (lbLt i (liLenX y))]
  (.ite (lbNot (lbAnd (lbEqI (lxKind x i) (lxKind y i)) (lbEqS (lxBody x i) (lxBody y i))))
   (.ret (.s (.bool (.lit false))) [])
   (.back 0 [(0, .s (.exts x false)), (1, .s (.exts y false)), (12, .s (.int .i64 (.sym (liLenX x)))), (13, .s (.int .i64 (.sym (liAdd .i64 i (liLit 1)))))] [])))
 (.ret (.s (.bool (.lit true))) [])) := by kernel_rfl
      show (symR tys eqTys zs [] Try.f78 kp78 0 [(0, .s (.exts x false)), (1, .s (.exts y false)), (12, .s (.int .i64 (.sym (liLenX x)))), (13, .s (.int .i64 (.sym (i : Int))))] []).holds _ _ _
      rw [ht]
      have hlx : liLenX x = (x.length : Int) := rfl
      have hly : liLenX y = (y.length : Int) := rfl
      refine ⟨fun h => ?_, fun h => ?_⟩
      · rw [lbLt_t, hlx] at h
        have hi' : i < x.length := by omega
        have e3 : liAdd .i64 (i : Int) (liLit 1) = ((i + 1 : Nat) : Int) := by rw [add64 (by simp only [liLit]; omega) (by simp only [liLit]; unfold imax at hm; omega)]; simp only [liLit]; omega
        have hd := fEqX_drop i x y hi' (by omega)
        rw [e3]
        refine ⟨?_, fun k => ?_, fun k => ?_⟩
        · intro q hq
          simp only [List.mem_cons, List.not_mem_nil, or_false] at hq
          rcases hq with rfl | rfl | rfl | rfl
          all_goals first | (rw [lbLe_t]; simp only [liLit]; omega) | (rw [lbLt_t]; omega)
        · rw [lbNot_t] at k
          refine sBl_norm ?_
          rw [hn, hd, k, Bool.false_and]
        · rw [lbNot_f] at k
          refine ⟨(⟨i + 1, hi', hl, hm, ?_⟩ : E0 x y), ?_, rfl, rfl⟩
          · rw [hn, hd, k, Bool.true_and]
          · simp only [M78]; omega
      · rw [lbLt_f, hlx] at h
        have hi' : i = x.length := by omega
        subst hi'
        refine sBl_norm ?_
        rw [hn, List.drop_length, hl, List.drop_length]; rfl
    | n + 1, g => exact nomatch g
def c78 : List D → Option (D × List Bool)
  | [.s (.exts x0 _), .s (.exts x1 _)] => some (.s (.bool (.sym ((fEqX (x0) (x1))))), [])
  | _ => none
def e78 : Entry := ⟨78, none, c78, noCallm, noDie⟩

def Con78 : Prop := ∀ (a0 : (List Ext)) (a1 : (List Ext)), Con Go.Proofs.Try.prog 78 [.s (.exts a0 false), .s (.exts a1 false)] (.s (.bool (.sym ((fEqX a0 a1)))))

theorem ok78 (h : Con78) : EntryOK Go.Proofs.Try.prog e78 := by
  refine EntryOK.pure fun args r req hc hq => ?_
  unfold c78 at hc
  split at hc
  · rename_i x0 _ x1 _
    simp only [Option.some.injEq, Prod.mk.injEq] at hc
    obtain ⟨rfl, rfl⟩ := hc
    exact Con.args (h (x0) (x1)) fun w vs hv => (match vs, hv with
      | [_, _], ⟨h0, h1, _⟩ => ⟨(exts_bare h0), (exts_bare h1), trivial⟩)
  · cases hc


theorem con30 (p q : Packet) : Con Try.prog 30 [.agg (encPkt false p), .agg (encPkt false q)] (.s (.bool (.sym (fSame p q)))) :=
  con_flat tryBase (es := [e78]) (by intro e he; rcases List.mem_singleton.1 he with rfl; exact ok78 con78) Try.func30 (by kernel_rfl) (by kernel_rfl) (by kernel_rfl) (by kernel_rfl) (by kernel_rfl)
  (t := (.ite (lbNot (fEqX p.exts q.exts))
 (.ret (.s (.bool (.lit false))) [])
 (.ite (lbAnd (lbEqB p.src.v6 q.src.v6) (lbAnd (lbEqI (liOfByte p.src.b0) (liOfByte q.src.b0)) (lbAnd (lbEqI (liOfByte p.src.b1) (liOfByte q.src.b1)) (lbAnd (lbEqI (liOfByte p.src.b2) (liOfByte q.src.b2)) (lbAnd (lbEqI (liOfByte p.src.b3) (liOfByte q.src.b3)) (lbAnd (lbEqI (liOfByte p.src.b4) (liOfByte q.src.b4)) (lbAnd (lbEqI (liOfByte p.src.b5) (liOfByte q.src.b5)) (lbAnd (lbEqI (liOfByte p.src.b6) (liOfByte q.src.b6)) (lbAnd (lbEqI (liOfByte p.src.b7) (liOfByte q.src.b7)) (lbAnd (lbEqI (liOfByte p.src.b8) (liOfByte q.src.b8)) (lbAnd (lbEqI (liOfByte p.src.b9) (liOfByte q.src.b9)) (lbAnd (lbEqI (liOfByte p.src.b10) (liOfByte q.src.b10)) (lbAnd (lbEqI (liOfByte p.src.b11) (liOfByte q.src.b11)) (lbAnd (lbEqI (liOfByte p.src.b12) (liOfByte q.src.b12)) (lbAnd (lbEqI (liOfByte p.src.b13) (liOfByte q.src.b13)) (lbAnd (lbEqI (liOfByte p.src.b14) (liOfByte q.src.b14)) (lbEqI (liOfByte p.src.b15) (liOfByte q.src.b15))))))))))))))))))
  (.ite (lbAnd (lbEqB p.dst.v6 q.dst.v6) (lbAnd (lbEqI (liOfByte p.dst.b0) (liOfByte q.dst.b0)) (lbAnd (lbEqI (liOfByte p.dst.b1) (liOfByte q.dst.b1)) (lbAnd (lbEqI (liOfByte p.dst.b2) (liOfByte q.dst.b2)) (lbAnd (lbEqI (liOfByte p.dst.b3) (liOfByte q.dst.b3)) (lbAnd (lbEqI (liOfByte p.dst.b4) (liOfByte q.dst.b4)) (lbAnd (lbEqI (liOfByte p.dst.b5) (liOfByte q.dst.b5)) (lbAnd (lbEqI (liOfByte p.dst.b6) (liOfByte q.dst.b6)) (lbAnd (lbEqI (liOfByte p.dst.b7) (liOfByte q.dst.b7)) (lbAnd (lbEqI (liOfByte p.dst.b8) (liOfByte q.dst.b8)) (lbAnd (lbEqI (liOfByte p.dst.b9) (liOfByte q.dst.b9)) (lbAnd (lbEqI (liOfByte p.dst.b10) (liOfByte q.dst.b10)) (lbAnd (lbEqI (liOfByte p.dst.b11) (liOfByte q.dst.b11)) (lbAnd (lbEqI (liOfByte p.dst.b12) (liOfByte q.dst.b12)) (lbAnd (lbEqI (liOfByte p.dst.b13) (liOfByte q.dst.b13)) (lbAnd (lbEqI (liOfByte p.dst.b14) (liOfByte q.dst.b14)) (lbEqI (liOfByte p.dst.b15) (liOfByte q.dst.b15))))))))))))))))))
   (.ite (lbEqI p.proto q.proto)
    (.ite (lbEqI p.hop q.hop)
     (.ite (lbEqI p.cls q.cls)
      (.ite (lbEqI p.id q.id)
       (.ite (lbEqI p.off q.off)
        (.ite (lbEqB p.more q.more)
         (.ite (lbEqB p.still q.still)
          (.ite (lbEqS p.opts q.opts)
           (.ite (lbEqI p.flow q.flow)
            (.ite (lbEqB p.cut q.cut)
             (.ret (.s (.bool (.sym (lbEqS p.pay q.pay)))) [])
             (.ret (.s (.bool (.lit false))) []))
            (.ret (.s (.bool (.lit false))) []))
           (.ret (.s (.bool (.lit false))) []))
          (.ret (.s (.bool (.lit false))) []))
         (.ret (.s (.bool (.lit false))) []))
        (.ret (.s (.bool (.lit false))) []))
       (.ret (.s (.bool (.lit false))) []))
      (.ret (.s (.bool (.lit false))) []))
     (.ret (.s (.bool (.lit false))) []))
    (.ret (.s (.bool (.lit false))) []))
   (.ret (.s (.bool (.lit false))) []))
  (.ret (.s (.bool (.lit false))) [])))) (by kernel_rfl) (by
  refine holds_bval ?_
  have e : fSame p q = (fEqX p.exts q.exts && fAEq p.src q.src && fAEq p.dst q.dst && lbEqI p.proto q.proto && lbEqI p.hop q.hop && lbEqI p.cls q.cls && lbEqI p.id q.id && lbEqI p.off q.off && lbEqB p.more q.more && lbEqB p.still q.still && lbEqS p.opts q.opts && lbEqI p.flow q.flow && lbEqB p.cut q.cut && lbEqS p.pay q.pay) := rfl
  rw [e]
  clear e
  unfold fAEq
  generalize fEqX p.exts q.exts = c0
  generalize lbAnd (lbEqB p.src.v6 q.src.v6) _ = c1
  generalize lbAnd (lbEqB p.dst.v6 q.dst.v6) _ = c2
  generalize lbEqI p.proto q.proto = c3
  generalize lbEqI p.hop q.hop = c4
  generalize lbEqI p.cls q.cls = c5
  generalize lbEqI p.id q.id = c6
  generalize lbEqI p.off q.off = c7
  generalize lbEqB p.more q.more = c8
  generalize lbEqB p.still q.still = c9
  generalize lbEqS p.opts q.opts = c10
  generalize lbEqI p.flow q.flow = c11
  generalize lbEqB p.cut q.cut = c12
  generalize lbEqS p.pay q.pay = c13
  revert c0 c1 c2 c3 c4 c5 c6 c7 c8 c9 c10 c11 c12 c13
  decide +kernel)

def kp23 : Nat → Option (List Nat × List Nat)
  | 0 => some ([2, 3, 5], [2, 3])
  | _ => none
def G23 (p q : Packet) : Nat → Type
  | 0 => E0 p.exts q.exts
  | _ => Empty
def T23 (p q : Packet) : (i : Nat) → G23 p q i → List (Nat × D) × List (Nat × Blk)
  | 0, g => let g : E0 p.exts q.exts := g; ([(2, .s (.ptr 2 0)), (3, .s (.ptr 3 0)), (5, .s (.int .i64 (.sym (g.i : Int))))], [(2, ⟨encPkt false p, 27⟩), (3, ⟨encPkt false q, 27⟩)])
  | _ + 1, g => nomatch g
def M23 (p q : Packet) : (i : Nat) → G23 p q i → Nat
  | 0, g => let g : E0 p.exts q.exts := g; p.exts.length - g.i
  | _ + 1, g => nomatch g
theorem exts_len2 {p : Packet} {β : Nat → Option Nat} {own : Nat → Prop} {w : World} {l : List D} {vs : List Value} (hv : RepLs β own w (.agg (encPkt false p) :: l) vs) : (p.exts.length : Int) ≤ imax := by
  match vs, hv with
  | v :: _, ⟨h, _⟩ => exact exts_len (vs := [v]) ⟨h, trivial⟩
theorem con23 (p q : Packet) : Con Try.prog 23 [.agg (encPkt false p), .agg (encPkt false q)] (.s (.bool (.sym (fSame p q)))) :=
  con_given Try.func23 (by kernel_rfl) (by kernel_rfl) fun w vs hv => by
  have hlen := exts_len2 hv
  refine con_loop tryBase (es := []) (fun _ h => nomatch h) kp23 Try.func23 (by kernel_rfl) (by kernel_rfl) (by kernel_rfl) (by kernel_rfl) (by kernel_rfl) (T23 p q) (M23 p q) ?_ ?_
  · have ht : symF tys eqTys zs [] Try.f23 kp23 [.agg (encPkt false p), .agg (encPkt false q)] = (.ite (lbNot (lbEqI (liLenX p.exts) (liLenX q.exts)))
 (.ret (.s (.bool (.lit false))) [])
 (.loop 0 [(2, .s (.ptr 2 0)), (3, .s (.ptr 3 0)), (5, .s (.int .i64 (.lit 0)))] [(2, ⟨[.bool (.sym p.src.v6), .byte p.src.b0, .byte p.src.b1, .byte p.src.b2, .byte p.src.b3, .byte p.src.b4, .byte p.src.b5, .byte p.src.b6, .byte p.src.b7, .byte p.src.b8, .byte p.src.b9, .byte p.src.b10, .byte p.src.b11, .byte p.src.b12, .byte p.src.b13, .byte p.src.b14, .byte p.src.b15, .bool (.sym p.dst.v6), .byte p.dst.b0, .byte p.dst.b1, .byte p.dst.b2, .byte p.dst.b3, .byte p.dst.b4, .byte p.dst.b5, .byte p.dst.b6, .byte p.dst.b7, .byte p.dst.b8, .byte p.dst.b9, .byte p.dst.b10, .byte p.dst.b11, .byte p.dst.b12, .byte p.dst.b13, .byte p.dst.b14, .byte p.dst.b15, .int .i64 (.sym p.proto), .int .i64 (.sym p.hop), .int .i64 (.sym p.cls), .int .i64 (.sym p.id), .int .i64 (.sym p.off), .bool (.sym p.more), .bool (.sym p.still), .str p.opts, .int .i64 (.sym p.flow), .exts p.exts false, .bool (.sym p.cut), .str p.pay], 27⟩), (3, ⟨[.bool (.sym q.src.v6), .byte q.src.b0, .byte q.src.b1, .byte q.src.b2, .byte q.src.b3, .byte q.src.b4, .byte q.src.b5, .byte q.src.b6, .byte q.src.b7, .byte q.src.b8, .byte q.src.b9, .byte q.src.b10, .byte q.src.b11, .byte q.src.b12, .byte q.src.b13, .byte q.src.b14, .byte q.src.b15, .bool (.sym q.dst.v6), .byte q.dst.b0, .byte q.dst.b1, .byte q.dst.b2, .byte q.dst.b3, .byte q.dst.b4, .byte q.dst.b5, .byte q.dst.b6, .byte q.dst.b7, .byte q.dst.b8, .byte q.dst.b9, .byte q.dst.b10, .byte q.dst.b11, .byte q.dst.b12, .byte q.dst.b13, .byte q.dst.b14, .byte q.dst.b15, .int .i64 (.sym q.proto), .int .i64 (.sym q.hop), .int .i64 (.sym q.cls), .int .i64 (.sym q.id), .int .i64 (.sym q.off), .bool (.sym q.more), .bool (.sym q.still), .str q.opts, .int .i64 (.sym q.flow), .exts q.exts false, .bool (.sym q.cut), .str q.pay], 27⟩)])) := by kernel_rfl
    rw [ht]
    refine ⟨fun h => ?_, fun h => ?_⟩
    · rw [lbNot_t, lbEqI_f] at h
      refine sBl_norm (Eq.symm ?_)
      have := fEqX_len (x := p.exts) (y := q.exts) (fun e => h (by simp only [liLenX]; rw [e]))
      simp [fSame, this]
    · rw [lbNot_f, lbEqI_t] at h
      have h' : (p.exts.length : Int) = q.exts.length := h
      exact ⟨(⟨0, Nat.zero_le _, by omega, hlen, rfl⟩ : E0 p.exts q.exts), trivial, rfl, rfl⟩
  · intro i g hi
    match i, g with
    | 0, g =>
      obtain ⟨i, hi, hl, hm, hn⟩ := (g : E0 p.exts q.exts)
      have ht : symR tys eqTys zs [] Try.f23 kp23 0 [(2, .s (.ptr 2 0)), (3, .s (.ptr 3 0)), (5, .s (.int .i64 (.sym (i : Int))))] [(2, ⟨encPkt false p, 27⟩), (3, ⟨encPkt false q, 27⟩)] =
        (.ite (lbLt i (liLenX p.exts))
 (.req [(lbLe (liLit 0) i), (lbLt i (liLenX p.exts)), (lbLe (liLit 0) i), (lbLt i (liLenX q.exts))]
  (.ite (lbNot (lbAnd (lbEqI (lxKind p.exts i) (lxKind q.exts i)) (lbEqS (lxBody p.exts i) (lxBody q.exts i))))
   (.ret (.s (.bool (.lit false))) [])
   (.back 0 [(2, .s (.ptr 2 0)), (3, .s (.ptr 3 0)), (5, .s (.int .i64 (.sym (liAdd .i64 i (liLit 1)))))] [(2, ⟨[.bool (.sym p.src.v6), .byte p.src.b0, .byte p.src.b1, .byte p.src.b2, .byte p.src.b3, .byte p.src.b4, .byte p.src.b5, .byte p.src.b6, .byte p.src.b7, .byte p.src.b8, .byte p.src.b9, .byte p.src.b10, .byte p.src.b11, .byte p.src.b12, .byte p.src.b13, .byte p.src.b14, .byte p.src.b15, .bool (.sym p.dst.v6), .byte p.dst.b0, .byte p.dst.b1, .byte p.dst.b2, .byte p.dst.b3, .byte p.dst.b4, .byte p.dst.b5, .byte p.dst.b6, .byte p.dst.b7, .byte p.dst.b8, .byte p.dst.b9, .byte p.dst.b10, .byte p.dst.b11, .byte p.dst.b12, .byte p.dst.b13, .byte p.dst.b14, .byte p.dst.b15, .int .i64 (.sym p.proto), .int .i64 (.sym p.hop), .int .i64 (.sym p.cls), .int .i64 (.sym p.id), .int .i64 (.sym p.off), .bool (.sym p.more), .bool (.sym p.still), .str p.opts, .int .i64 (.sym p.flow), .exts p.exts false, .bool (.sym p.cut), .str p.pay], 27⟩), (3, ⟨[.bool (.sym q.src.v6), .byte q.src.b0, .byte q.src.b1, .byte q.src.b2, .byte q.src.b3, .byte q.src.b4, .byte q.src.b5, .byte q.src.b6, .byte q.src.b7, .byte q.src.b8, .byte q.src.b9, .byte q.src.b10, .byte q.src.b11, .byte q.src.b12, .byte q.src.b13, .byte q.src.b14, .byte q.src.b15, .bool (.sym q.dst.v6), .byte q.dst.b0, .byte q.dst.b1, .byte q.dst.b2, .byte q.dst.b3, .byte q.dst.b4, .byte q.dst.b5, .byte q.dst.b6, .byte q.dst.b7, .byte q.dst.b8, .byte q.dst.b9, .byte q.dst.b10, .byte q.dst.b11, .byte q.dst.b12, .byte q.dst.b13, .byte q.dst.b14, .byte q.dst.b15, .int .i64 (.sym q.proto), .int .i64 (.sym q.hop), .int .i64 (.sym q.cls), .int .i64 (.sym q.id), .int .i64 (.sym q.off), .bool (.sym q.more), .bool (.sym q.still), .str q.opts, .int .i64 (.sym q.flow), .exts q.exts false, .bool (.sym q.cut), .str q.pay], 27⟩)])))
 (.ite (lbAnd (lbEqB p.src.v6 q.src.v6) (lbAnd (lbEqI (liOfByte p.src.b0) (liOfByte q.src.b0)) (lbAnd (lbEqI (liOfByte p.src.b1) (liOfByte q.src.b1)) (lbAnd (lbEqI (liOfByte p.src.b2) (liOfByte q.src.b2)) (lbAnd (lbEqI (liOfByte p.src.b3) (liOfByte q.src.b3)) (lbAnd (lbEqI (liOfByte p.src.b4) (liOfByte q.src.b4)) (lbAnd (lbEqI (liOfByte p.src.b5) (liOfByte q.src.b5)) (lbAnd (lbEqI (liOfByte p.src.b6) (liOfByte q.src.b6)) (lbAnd (lbEqI (liOfByte p.src.b7) (liOfByte q.src.b7)) (lbAnd (lbEqI (liOfByte p.src.b8) (liOfByte q.src.b8)) (lbAnd (lbEqI (liOfByte p.src.b9) (liOfByte q.src.b9)) (lbAnd (lbEqI (liOfByte p.src.b10) (liOfByte q.src.b10)) (lbAnd (lbEqI (liOfByte p.src.b11) (liOfByte q.src.b11)) (lbAnd (lbEqI (liOfByte p.src.b12) (liOfByte q.src.b12)) (lbAnd (lbEqI (liOfByte p.src.b13) (liOfByte q.src.b13)) (lbAnd (lbEqI (liOfByte p.src.b14) (liOfByte q.src.b14)) (lbEqI (liOfByte p.src.b15) (liOfByte q.src.b15))))))))))))))))))
  (.ite (lbAnd (lbEqB p.dst.v6 q.dst.v6) (lbAnd (lbEqI (liOfByte p.dst.b0) (liOfByte q.dst.b0)) (lbAnd (lbEqI (liOfByte p.dst.b1) (liOfByte q.dst.b1)) (lbAnd (lbEqI (liOfByte p.dst.b2) (liOfByte q.dst.b2)) (lbAnd (lbEqI (liOfByte p.dst.b3) (liOfByte q.dst.b3)) (lbAnd (lbEqI (liOfByte p.dst.b4) (liOfByte q.dst.b4)) (lbAnd (lbEqI (liOfByte p.dst.b5) (liOfByte q.dst.b5)) (lbAnd (lbEqI (liOfByte p.dst.b6) (liOfByte q.dst.b6)) (lbAnd (lbEqI (liOfByte p.dst.b7) (liOfByte q.dst.b7)) (lbAnd (lbEqI (liOfByte p.dst.b8) (liOfByte q.dst.b8)) (lbAnd (lbEqI (liOfByte p.dst.b9) (liOfByte q.dst.b9)) (lbAnd (lbEqI (liOfByte p.dst.b10) (liOfByte q.dst.b10)) (lbAnd (lbEqI (liOfByte p.dst.b11) (liOfByte q.dst.b11)) (lbAnd (lbEqI (liOfByte p.dst.b12) (liOfByte q.dst.b12)) (lbAnd (lbEqI (liOfByte p.dst.b13) (liOfByte q.dst.b13)) (lbAnd (lbEqI (liOfByte p.dst.b14) (liOfByte q.dst.b14)) (lbEqI (liOfByte p.dst.b15) (liOfByte q.dst.b15))))))))))))))))))
   (.ite (lbEqI p.proto q.proto)
    (.ite (lbEqI p.hop q.hop)
     (.ite (lbEqI p.cls q.cls)
      (.ite (lbEqI p.off q.off)
       (.ite (lbEqB p.more q.more)
        (.ite (lbEqB p.still q.still)
         (.ite (lbEqS p.opts q.opts)
          (.ite (lbEqI p.id q.id)
           (.ite (lbEqI p.flow q.flow)
            (.ite (lbEqB p.cut q.cut)
             (.ret (.s (.bool (.sym (lbEqS p.pay q.pay)))) [])
             (.ret (.s (.bool (.lit false))) []))
            (.ret (.s (.bool (.lit false))) []))
           (.ret (.s (.bool (.lit false))) []))
          (.ite (lbEqI p.id q.id)
           (.ret (.s (.bool (.lit false))) [])
           (.ret (.s (.bool (.lit false))) [])))
         (.ite (lbEqI p.id q.id)
          (.ret (.s (.bool (.lit false))) [])
          (.ret (.s (.bool (.lit false))) [])))
        (.ite (lbEqI p.id q.id)
         (.ret (.s (.bool (.lit false))) [])
         (.ret (.s (.bool (.lit false))) [])))
       (.ite (lbEqI p.id q.id)
        (.ret (.s (.bool (.lit false))) [])
        (.ret (.s (.bool (.lit false))) [])))
      (.ite (lbEqI p.off q.off)
       (.ite (lbEqB p.more q.more)
        (.ite (lbEqB p.still q.still)
         (.ite (lbEqS p.opts q.opts)
          (.ret (.s (.bool (.lit false))) [])
          (.ret (.s (.bool (.lit false))) []))
         (.ret (.s (.bool (.lit false))) []))
        (.ret (.s (.bool (.lit false))) []))
       (.ret (.s (.bool (.lit false))) [])))
     (.ite (lbEqI p.off q.off)
      (.ite (lbEqB p.more q.more)
       (.ite (lbEqB p.still q.still)
        (.ite (lbEqS p.opts q.opts)
         (.ret (.s (.bool (.lit false))) [])
         (.ret (.s (.bool (.lit false))) []))
        (.ret (.s (.bool (.lit false))) []))
       (.ret (.s (.bool (.lit false))) []))
      (.ret (.s (.bool (.lit false))) [])))
    (.ite (lbEqI p.off q.off)
     (.ite (lbEqB p.more q.more)
      (.ite (lbEqB p.still q.still)
       (.ite (lbEqS p.opts q.opts)
        (.ret (.s (.bool (.lit false))) [])
        (.ret (.s (.bool (.lit false))) []))
       (.ret (.s (.bool (.lit false))) []))
      (.ret (.s (.bool (.lit false))) []))
     (.ret (.s (.bool (.lit false))) [])))
   (.ite (lbEqI p.off q.off)
    (.ite (lbEqB p.more q.more)
     (.ite (lbEqB p.still q.still)
      (.ite (lbEqS p.opts q.opts)
       (.ret (.s (.bool (.lit false))) [])
       (.ret (.s (.bool (.lit false))) []))
      (.ret (.s (.bool (.lit false))) []))
     (.ret (.s (.bool (.lit false))) []))
    (.ret (.s (.bool (.lit false))) [])))
  (.ite (lbEqI p.off q.off)
   (.ite (lbEqB p.more q.more)
    (.ite (lbEqB p.still q.still)
     (.ite (lbEqS p.opts q.opts)
      (.ret (.s (.bool (.lit false))) [])
      (.ret (.s (.bool (.lit false))) []))
     (.ret (.s (.bool (.lit false))) []))
    (.ret (.s (.bool (.lit false))) []))
   (.ret (.s (.bool (.lit false))) [])))) := by kernel_rfl
      show (symR tys eqTys zs [] Try.f23 kp23 0 [(2, .s (.ptr 2 0)), (3, .s (.ptr 3 0)), (5, .s (.int .i64 (.sym (i : Int))))] [(2, ⟨encPkt false p, 27⟩), (3, ⟨encPkt false q, 27⟩)]).holds _ _ _
      rw [ht]
      have hlx : liLenX p.exts = (p.exts.length : Int) := rfl
      have hly : liLenX q.exts = (q.exts.length : Int) := rfl
      refine ⟨fun h => ?_, fun h => ?_⟩
      · rw [lbLt_t, hlx] at h
        have hi' : i < p.exts.length := by omega
        have e3 : liAdd .i64 (i : Int) (liLit 1) = ((i + 1 : Nat) : Int) := by rw [add64 (by simp only [liLit]; omega) (by simp only [liLit]; unfold imax at hm; omega)]; simp only [liLit]; omega
        have hd := fEqX_drop i p.exts q.exts hi' (by omega)
        rw [e3]
        refine ⟨?_, fun k => ?_, fun k => ?_⟩
        · intro q hq
          simp only [List.mem_cons, List.not_mem_nil, or_false] at hq
          rcases hq with rfl | rfl | rfl | rfl
          all_goals first | (rw [lbLe_t]; simp only [liLit]; omega) | (rw [lbLt_t]; omega)
        · rw [lbNot_t] at k
          refine sBl_norm (Eq.symm ?_)
          have : fEqX p.exts q.exts = false := by rw [hn, hd, k, Bool.false_and]
          simp [fSame, this]
        · rw [lbNot_f] at k
          refine ⟨(⟨i + 1, hi', hl, hm, ?_⟩ : E0 p.exts q.exts), ?_, rfl, rfl⟩
          · rw [hn, hd, k, Bool.true_and]
          · simp only [M23]; omega
      · rw [lbLt_f, hlx] at h
        have hi' : i = p.exts.length := by omega
        subst hi'
        have h0 : fEqX p.exts q.exts = true := by rw [hn, List.drop_length, hl, List.drop_length]; rfl
        refine holds_bval ?_
        have e : fSame p q = (fEqX p.exts q.exts && fAEq p.src q.src && fAEq p.dst q.dst && lbEqI p.proto q.proto && lbEqI p.hop q.hop && lbEqI p.cls q.cls && lbEqI p.id q.id && lbEqI p.off q.off && lbEqB p.more q.more && lbEqB p.still q.still && lbEqS p.opts q.opts && lbEqI p.flow q.flow && lbEqB p.cut q.cut && lbEqS p.pay q.pay) := rfl
        rw [e, h0]
        clear e h0 ht hn
        unfold fAEq
        generalize lbAnd (lbEqB p.src.v6 q.src.v6) _ = c1
        generalize lbAnd (lbEqB p.dst.v6 q.dst.v6) _ = c2
        generalize lbEqI p.proto q.proto = c3
        generalize lbEqI p.hop q.hop = c4
        generalize lbEqI p.cls q.cls = c5
        generalize lbEqI p.id q.id = c6
        generalize lbEqI p.off q.off = c7
        generalize lbEqB p.more q.more = c8
        generalize lbEqB p.still q.still = c9
        generalize lbEqS p.opts q.opts = c10
        generalize lbEqI p.flow q.flow = c11
        generalize lbEqB p.cut q.cut = c12
        generalize lbEqS p.pay q.pay = c13
        revert c1 c2 c3 c4 c5 c6 c7 c8 c9 c10 c11 c12 c13
        decide +kernel
    | n + 1, g => exact nomatch g
end Go.Adit
