/- Part of the proofs of the laws: lemmas and contracts, no statement of its own. -/
import Derived.Test.YtledohjnchnmhaaHead
import Derived.Test.YtledohjnchnmhaaNum
set_option linter.unusedVariables false
set_option linter.unusedSimpArgs false
namespace Go.Adit
/-- what a tree of Bool answers says, if it has no other leaves -/
def Tr.bval : Tr → Option Bool
  | .ite b x y => match b with | true => x.bval | false => y.bval
  | .req l k => match l.all id with | true => k.bval | false => none
  | .ret (.s (.bool v)) _ => some v.lb
  | _ => none
theorem holds_bval {Rd : Int → Prop} {A : Nat → List (Nat × D) → List (Nat × Blk) → Prop} {r : Bool} : ∀ {t : Tr}, t.bval = some r → t.holds (fun d _ => d.norm = (D.s (.bool (.sym r))).norm) Rd A
  | .ite b x y, h => by
    refine ⟨fun e => ?_, fun e => ?_⟩
    · subst e; exact holds_bval (t := x) h
    · subst e; exact holds_bval (t := y) h
  | .req l k, h => by
    cases e : l.all id with
    | true =>
      simp only [Tr.bval, e] at h
      exact ⟨fun b hb => (by simpa using List.all_eq_true.1 e b hb), holds_bval h⟩
    | false => simp [Tr.bval, e] at h
  | .ret (.s (.bool v)) _, h => by
    simp only [Tr.bval, Option.some.injEq] at h
    subst h
    cases v <;> rfl
  | .ret (.s (.int _ _)) _, h | .ret (.s (.byte _)) _, h | .ret (.s (.str _)) _, h | .ret (.s (.exts _ _)) _, h | .ret (.s (.strs _)) _, h | .ret (.s (.ints _)) _, h | .ret (.s (.ptr _ _)) _, h
  | .ret (.s (.lsl _ _ _ _)) _, h | .ret (.s (.eptr _ _ _)) _, h | .ret (.s (.sptr _)) _, h | .ret (.s (.iptr _)) _, h | .ret (.s (.fn _)) _, h | .ret (.s .nilp) _, h | .ret (.agg _) _, h | .ret (.tup _) _, h
  | .die _, h | .loop _ _ _, h | .back _ _ _, h | .fail _, h => by simp [Tr.bval] at h
end Go.Adit

namespace Go.Adit
open Go.RowKit Go.Proofs
set_option maxRecDepth 100000
def fExt (x : Ext) (i : Int) : Bool := ((x.kind == 0 && i == 0) || x.kind == 43 || x.kind == 60) && lbEqI (liRem (liLen x.body) 8) 6 && lbLe (liLen x.body) 2046
def fExts : Nat → List Ext → Bool
  | _, [] => true
  | i, x :: r => fExt x i && fExts (i + 1) r
def fR0 (p : Packet) : Bool := fValid p.src && fValid p.dst && lbEqB p.src.v6 p.dst.v6 && fUpto p.proto 255 && fUpto p.hop 255 && fUpto p.cls 255 && fUpto p.off 65528 && lbEqI (liRem p.off 8) 0
def fR4 (p : Packet) : Bool := fUpto p.id 65535 && lbEqI (liRem (liLen p.opts) 4) 0 && lbLe (liLen p.opts) 40 && lbEqI p.flow 0 && lbEqI (liLenX p.exts) 0 && lbNot p.cut
def fR6 (p : Packet) : Bool := fUpto p.flow 1048575 && lbEqS p.opts [] && lbNot p.still && lbLe (liLenX p.exts) 4 && fUpto p.id 4294967295 && lbNot (fSpecial p.proto) && (p.cut || (lbEqI p.id 0 && lbEqI p.off 0 && lbNot p.more))
def fRight (p : Packet) : Bool := fR0 p && (if p.src.v6 then fExts 0 p.exts && fR6 p else fR4 p)

theorem sBl_norm {a b : Bool} (h : a = b) : (D.s (.bool (.lit a))).norm = (D.s (.bool (.sym b))).norm := by rw [h]; rfl
theorem sBs_norm {a b : Bool} (h : a = b) : (D.s (.bool (.sym a))).norm = (D.s (.bool (.sym b))).norm := by rw [h]

theorem fExts_drop (i : Nat) (l : List Ext) (h : i < l.length) : fExts i (l.drop i) = (fExt (l.getD i ⟨0, []⟩) i && fExts (i + 1) (l.drop (i + 1))) := by
  rw [List.drop_eq_getElem_cons h]
  simp only [fExts]
  rw [show l.getD i ⟨0, []⟩ = l[i] by simp [List.getD_eq_getElem?_getD, h]]

def kp24 : Nat → Option (List Nat × List Nat)
  | 0 => some ([1, 92, 93, 94], [1])
  | _ => none
structure R0 (p : Packet) where
  i : Nat
  hi : i ≤ p.exts.length
  hl : (p.exts.length : Int) ≤ imax
  h0 : fR0 p = true
  hv : p.src.v6 = true
  hn : fExts 0 p.exts = fExts i (p.exts.drop i)
def G24 (p : Packet) : Nat → Type
  | 0 => R0 p
  | _ => Empty
def T24 (p : Packet) : (i : Nat) → G24 p i → List (Nat × D) × List (Nat × Blk)
  | 0, g => let g : R0 p := g; ([(1, .s (.ptr 1 0)), (92, .s (.exts p.exts false)), (93, .s (.int .i64 (.sym (liLenX p.exts)))), (94, .s (.int .i64 (.sym (g.i : Int))))], [(1, ⟨encPkt false p, 27⟩)])
  | _ + 1, g => nomatch g
def M24 (p : Packet) : (i : Nat) → G24 p i → Nat
  | 0, g => let g : R0 p := g; p.exts.length - g.i
  | _ + 1, g => nomatch g
theorem exts_len {p : Packet} {β : Nat → Option Nat} {own : Nat → Prop} {w : World} {vs : List Value} (hv : RepLs β own w [.agg (encPkt false p)] vs) : (p.exts.length : Int) ≤ imax := by
  match vs, hv with
  | [v], ⟨⟨cs, e1, e2⟩, _⟩ =>
    have h2 := (RepL.drop 43 e2)
    have e : dropN 43 (encPkt false p) = [.exts p.exts false, .bool (.sym p.cut), .str p.pay] := rfl
    rw [e] at h2
    match hd : cs.drop 43, h2 with
    | _ :: _, ⟨⟨_, _, _, h, _⟩, _⟩ => exact h
theorem con24 (p : Packet) : Con Try.prog 24 [.agg (encPkt false p)] (.s (.bool (.sym (fRight p)))) :=
  con_given Try.func24 (by kernel_rfl) (by kernel_rfl) fun w vs hv => by
  have hlen := exts_len hv
  refine con_loop tryBase (es := [e44, e63, e64]) (by intro e he; rcases List.mem_cons.1 he with rfl | he; exact ok44 con44; rcases List.mem_cons.1 he with rfl | he; exact ok63 con63; rcases List.mem_singleton.1 he with rfl; exact ok64 con64) kp24 Try.func24 (by kernel_rfl) (by kernel_rfl) (by kernel_rfl) (by kernel_rfl) (by kernel_rfl) (T24 p) (M24 p) ?_ ?_
  · have ht : symF tys eqTys zs [e44, e63, e64] Try.f24 kp24 [.agg (encPkt false p)] = (.ite (lbNot (fValid p.src))
 (.ret (.s (.bool (.lit false))) [])
 (.ite (lbNot (fValid p.dst))
  (.ret (.s (.bool (.lit false))) [])
  (.ite (lbNot (lbEqB p.src.v6 p.dst.v6))
   (.ret (.s (.bool (.lit false))) [])
   (.ite (lbNot (fUpto p.proto (liLit 255)))
    (.ret (.s (.bool (.lit false))) [])
    (.ite (lbNot (fUpto p.hop (liLit 255)))
     (.ret (.s (.bool (.lit false))) [])
     (.ite (lbNot (fUpto p.cls (liLit 255)))
      (.ret (.s (.bool (.lit false))) [])
      (.ite (lbNot (fUpto p.off (liLit 65528)))
       (.ret (.s (.bool (.lit false))) [])
       (.ite (lbNot (lbEqI (liRem p.off (liLit 8)) (liLit 0)))
        (.ret (.s (.bool (.lit false))) [])
        (.ite (lbNot p.src.v6)
         (.ite (fUpto p.id (liLit 65535))
          (.ite (lbEqI (liRem (liLen p.opts) (liLit 4)) (liLit 0))
           (.ite (lbLe (liLen p.opts) (liLit 40))
            (.ite (lbEqI p.flow (liLit 0))
             (.ite (lbEqI (liLenX p.exts) (liLit 0))
              (.ret (.s (.bool (.sym (lbNot p.cut)))) [])
              (.ret (.s (.bool (.lit false))) []))
             (.ret (.s (.bool (.lit false))) []))
            (.ret (.s (.bool (.lit false))) []))
           (.ret (.s (.bool (.lit false))) []))
          (.ret (.s (.bool (.lit false))) []))
         (.loop 0 [(1, .s (.ptr 1 0)), (92, .s (.exts p.exts false)), (93, .s (.int .i64 (.sym (liLenX p.exts)))), (94, .s (.int .i64 (.lit 0)))] [(1, ⟨[.bool (.sym p.src.v6), .byte p.src.b0, .byte p.src.b1, .byte p.src.b2, .byte p.src.b3, .byte p.src.b4, .byte p.src.b5, .byte p.src.b6, .byte p.src.b7, .byte p.src.b8, .byte p.src.b9, .byte p.src.b10, .byte p.src.b11, .byte p.src.b12, .byte p.src.b13, .byte p.src.b14, .byte p.src.b15, .bool (.sym p.dst.v6), .byte p.dst.b0, .byte p.dst.b1, .byte p.dst.b2, .byte p.dst.b3, .byte p.dst.b4, .byte p.dst.b5, .byte p.dst.b6, .byte p.dst.b7, .byte p.dst.b8, .byte p.dst.b9, .byte p.dst.b10, .byte p.dst.b11, .byte p.dst.b12, .byte p.dst.b13, .byte p.dst.b14, .byte p.dst.b15, .int .i64 (.sym p.proto), .int .i64 (.sym p.hop), .int .i64 (.sym p.cls), .int .i64 (.sym p.id), .int .i64 (.sym p.off), .bool (.sym p.more), .bool (.sym p.still), .str p.opts, .int .i64 (.sym p.flow), .exts p.exts false, .bool (.sym p.cut), .str p.pay], 27⟩)])))))))))) := by kernel_rfl
    rw [ht]
    simp only [Tr.holds]
    have hf : ∀ b : Bool, fRight p = b → (D.s (.bool (.lit b))).norm = (D.s (.bool (.sym (fRight p)))).norm := fun b h => sBl_norm h.symm
    refine ⟨fun h1 => hf _ ?_, fun h1 => ⟨fun h2 => hf _ ?_, fun h2 => ⟨fun h3 => hf _ ?_, fun h3 => ⟨fun h4 => hf _ ?_, fun h4 => ⟨fun h5 => hf _ ?_, fun h5 => ⟨fun h6 => hf _ ?_, fun h6 => ⟨fun h7 => hf _ ?_, fun h7 => ⟨fun h8 => hf _ ?_, fun h8 => ⟨fun h9 => ?_, fun h9 => ?_⟩⟩⟩⟩⟩⟩⟩⟩⟩
    all_goals simp only [lbNot_t, lbNot_f, liLit_eq] at *
    · simp [fRight, fR0, h1]
    · simp [fRight, fR0, h2]
    · simp [fRight, fR0, h3]
    · simp [fRight, fR0, h4]
    · simp [fRight, fR0, h5]
    · simp [fRight, fR0, h6]
    · simp [fRight, fR0, h7]
    · simp [fRight, fR0, h8]
    · have h3' := h3
      rw [h9] at h3'
      have e : fRight p = fR4 p := by simp [fRight, fR0, h1, h2, h3, h3', h4, h5, h6, h7, h8, h9]
      rw [e]
      have hf : ∀ b : Bool, fR4 p = b → (D.s (.bool (.lit b))).norm = (D.s (.bool (.sym (fR4 p)))).norm := fun b h => sBl_norm h.symm
      refine ⟨fun g1 => ⟨fun g2 => ⟨fun g3 => ⟨fun g4 => ⟨fun g5 => sBs_norm ?_, fun g5 => hf _ ?_⟩, fun g4 => hf _ ?_⟩, fun g3 => hf _ ?_⟩, fun g2 => hf _ ?_⟩, fun g1 => hf _ ?_⟩
      · simp [fR4, g1, g2, g3, g4, g5]
      · simp [fR4, g5]
      · simp [fR4, g4]
      · simp [fR4, g3]
      · simp [fR4, g2]
      · simp [fR4, g1]
    · refine ⟨(⟨0, Nat.zero_le _, hlen, ?_, h9, rfl⟩ : R0 p), trivial, rfl, rfl⟩
      simp [fR0, h1, h2, h3, h4, h5, h6, h7, h8]
  · intro i g hi
    match i, g with
    | 0, g =>
      obtain ⟨i, hi, hl, h0, hv6, hn⟩ := (g : R0 p)
      have ht : symR tys eqTys zs [e44, e63, e64] Try.f24 kp24 0 [(1, .s (.ptr 1 0)), (92, .s (.exts p.exts false)), (93, .s (.int .i64 (.sym (liLenX p.exts)))), (94, .s (.int .i64 (.sym (i : Int))))] [(1, ⟨encPkt false p, 27⟩)] =
        (.ite (lbLt i (liLenX p.exts))
 (.req [(lbLe (liLit 0) i), (lbLt i (liLenX p.exts))]
  (.ite (lbNot (fSpecial (lxKind p.exts i)))
   (.ret (.s (.bool (.lit false))) [])
   (.ite (lbEqI (lxKind p.exts i) (liLit 44))
    (.ret (.s (.bool (.lit false))) [])
    (.ite (lbEqI (lxKind p.exts i) (liLit 0))
     (.ite (lbLt (liLit 0) i)
      (.ret (.s (.bool (.lit false))) [])
      (.ite (lbNot (lbEqI (liRem (liLen (lxBody p.exts i)) (liLit 8)) (liLit 6)))
       (.ret (.s (.bool (.lit false))) [])
       (.ite (lbLt (liLit 2046) (liLen (lxBody p.exts i)))
        (.ret (.s (.bool (.lit false))) [])
        (.back 0 [(1, .s (.ptr 1 0)), (92, .s (.exts p.exts false)), (93, .s (.int .i64 (.sym (liLenX p.exts)))), (94, .s (.int .i64 (.sym (liAdd .i64 i (liLit 1)))))] [(1, ⟨[.bool (.sym p.src.v6), .byte p.src.b0, .byte p.src.b1, .byte p.src.b2, .byte p.src.b3, .byte p.src.b4, .byte p.src.b5, .byte p.src.b6, .byte p.src.b7, .byte p.src.b8, .byte p.src.b9, .byte p.src.b10, .byte p.src.b11, .byte p.src.b12, .byte p.src.b13, .byte p.src.b14, .byte p.src.b15, .bool (.sym p.dst.v6), .byte p.dst.b0, .byte p.dst.b1, .byte p.dst.b2, .byte p.dst.b3, .byte p.dst.b4, .byte p.dst.b5, .byte p.dst.b6, .byte p.dst.b7, .byte p.dst.b8, .byte p.dst.b9, .byte p.dst.b10, .byte p.dst.b11, .byte p.dst.b12, .byte p.dst.b13, .byte p.dst.b14, .byte p.dst.b15, .int .i64 (.sym p.proto), .int .i64 (.sym p.hop), .int .i64 (.sym p.cls), .int .i64 (.sym p.id), .int .i64 (.sym p.off), .bool (.sym p.more), .bool (.sym p.still), .str p.opts, .int .i64 (.sym p.flow), .exts p.exts false, .bool (.sym p.cut), .str p.pay], 27⟩)]))))
     (.ite (lbNot (lbEqI (liRem (liLen (lxBody p.exts i)) (liLit 8)) (liLit 6)))
      (.ret (.s (.bool (.lit false))) [])
      (.ite (lbLt (liLit 2046) (liLen (lxBody p.exts i)))
       (.ret (.s (.bool (.lit false))) [])
       (.back 0 [(1, .s (.ptr 1 0)), (92, .s (.exts p.exts false)), (93, .s (.int .i64 (.sym (liLenX p.exts)))), (94, .s (.int .i64 (.sym (liAdd .i64 i (liLit 1)))))] [(1, ⟨[.bool (.sym p.src.v6), .byte p.src.b0, .byte p.src.b1, .byte p.src.b2, .byte p.src.b3, .byte p.src.b4, .byte p.src.b5, .byte p.src.b6, .byte p.src.b7, .byte p.src.b8, .byte p.src.b9, .byte p.src.b10, .byte p.src.b11, .byte p.src.b12, .byte p.src.b13, .byte p.src.b14, .byte p.src.b15, .bool (.sym p.dst.v6), .byte p.dst.b0, .byte p.dst.b1, .byte p.dst.b2, .byte p.dst.b3, .byte p.dst.b4, .byte p.dst.b5, .byte p.dst.b6, .byte p.dst.b7, .byte p.dst.b8, .byte p.dst.b9, .byte p.dst.b10, .byte p.dst.b11, .byte p.dst.b12, .byte p.dst.b13, .byte p.dst.b14, .byte p.dst.b15, .int .i64 (.sym p.proto), .int .i64 (.sym p.hop), .int .i64 (.sym p.cls), .int .i64 (.sym p.id), .int .i64 (.sym p.off), .bool (.sym p.more), .bool (.sym p.still), .str p.opts, .int .i64 (.sym p.flow), .exts p.exts false, .bool (.sym p.cut), .str p.pay], 27⟩)])))))))
 (.ite (lbEqI p.id (liLit 0))
  (.ite (lbEqI p.off (liLit 0))
   (.ite (fUpto p.flow (liLit 1048575))
    (.ite (lbEqS p.opts (lsLit []))
     (.ite (lbNot p.still)
      (.ite (lbLe (liLenX p.exts) (liLit 4))
       (.ite (fUpto p.id (liLit 4294967295))
        (.ite (lbNot (fSpecial p.proto))
         (.ite p.cut
          (.ret (.s (.bool (.lit true))) [])
          (.ret (.s (.bool (.sym (lbNot p.more)))) []))
         (.ret (.s (.bool (.lit false))) []))
        (.ret (.s (.bool (.lit false))) []))
       (.ret (.s (.bool (.lit false))) []))
      (.ret (.s (.bool (.lit false))) []))
     (.ret (.s (.bool (.lit false))) []))
    (.ret (.s (.bool (.lit false))) []))
   (.ite (fUpto p.flow (liLit 1048575))
    (.ite (lbEqS p.opts (lsLit []))
     (.ite (lbNot p.still)
      (.ite (lbLe (liLenX p.exts) (liLit 4))
       (.ite (fUpto p.id (liLit 4294967295))
        (.ite (lbNot (fSpecial p.proto))
         (.ite p.cut
          (.ret (.s (.bool (.lit true))) [])
          (.ret (.s (.bool (.lit false))) []))
         (.ret (.s (.bool (.lit false))) []))
        (.ret (.s (.bool (.lit false))) []))
       (.ret (.s (.bool (.lit false))) []))
      (.ret (.s (.bool (.lit false))) []))
     (.ret (.s (.bool (.lit false))) []))
    (.ret (.s (.bool (.lit false))) [])))
  (.ite (fUpto p.flow (liLit 1048575))
   (.ite (lbEqS p.opts (lsLit []))
    (.ite (lbNot p.still)
     (.ite (lbLe (liLenX p.exts) (liLit 4))
      (.ite (fUpto p.id (liLit 4294967295))
       (.ite (lbNot (fSpecial p.proto))
        (.ite p.cut
         (.ret (.s (.bool (.lit true))) [])
         (.ret (.s (.bool (.lit false))) []))
        (.ret (.s (.bool (.lit false))) []))
       (.ret (.s (.bool (.lit false))) []))
      (.ret (.s (.bool (.lit false))) []))
     (.ret (.s (.bool (.lit false))) []))
    (.ret (.s (.bool (.lit false))) []))
   (.ret (.s (.bool (.lit false))) [])))) := by kernel_rfl
      show (symR tys eqTys zs [e44, e63, e64] Try.f24 kp24 0 [(1, .s (.ptr 1 0)), (92, .s (.exts p.exts false)), (93, .s (.int .i64 (.sym (liLenX p.exts)))), (94, .s (.int .i64 (.sym (i : Int))))] [(1, ⟨encPkt false p, 27⟩)]).holds _ _ _
      rw [ht]
      have hlx : liLenX p.exts = (p.exts.length : Int) := rfl
      have e : fRight p = (fExts i (p.exts.drop i) && fR6 p) := by simp [fRight, h0, hv6, hn]
      rw [e]
      refine ⟨fun h => ?_, fun h => ?_⟩
      · simp only [Tr.holds]
        rw [lbLt_t, hlx] at h
        have hi' : i < p.exts.length := by omega
        have e3 : liAdd .i64 (i : Int) (liLit 1) = ((i + 1 : Nat) : Int) := by rw [add64 (by simp only [liLit]; omega) (by simp only [liLit]; unfold imax at hl; omega)]; simp only [liLit]; omega
        rw [fExts_drop i _ hi', e3]
        have ek : lxKind p.exts (i : Int) = (p.exts.getD i ⟨0, []⟩).kind := rfl
        have eb : lxBody p.exts (i : Int) = (p.exts.getD i ⟨0, []⟩).body := rfl
        rw [ek, eb]
        generalize hx : p.exts.getD i ⟨0, []⟩ = x
        have hf : ∀ b : Bool, (fExt x i && fExts (i + 1) (p.exts.drop (i + 1)) && fR6 p) = b → (D.s (.bool (.lit b))).norm = (D.s (.bool (.sym (fExt x i && fExts (i + 1) (p.exts.drop (i + 1)) && fR6 p)))).norm := fun b h => sBl_norm h.symm
        have hb : fExt x i = true → ∃ g : G24 p 0, M24 p 0 g < M24 p 0 (⟨i, hi, hl, h0, hv6, hn⟩ : R0 p) ∧ normT [(1, .s (.ptr 1 0)), (92, .s (.exts p.exts false)), (93, .s (.int .i64 (.sym (liLenX p.exts)))), (94, .s (.int .i64 (.sym ((i + 1 : Nat) : Int))))] = normT (T24 p 0 g).1 ∧
            normM [(1, ⟨encPkt false p, 27⟩)] = normM (T24 p 0 g).2 := by
          intro hx'
          refine ⟨(⟨i + 1, hi', hl, h0, hv6, ?_⟩ : R0 p), ?_, rfl, rfl⟩
          · rw [hn, fExts_drop i _ hi', hx, hx']; rfl
          · simp only [M24]; omega
        refine ⟨?_, fun k1 => hf _ ?_, fun k1 => ⟨fun k2 => hf _ ?_, fun k2 => ⟨fun k3 => ⟨fun k4 => hf _ ?_, fun k4 => ⟨fun k5 => hf _ ?_, fun k5 => ⟨fun k6 => hf _ ?_, fun k6 => hb ?_⟩⟩⟩, fun k3 => ⟨fun k5 => hf _ ?_, fun k5 => ⟨fun k6 => hf _ ?_, fun k6 => hb ?_⟩⟩⟩⟩⟩
        · intro q hq
          simp only [List.mem_cons, List.not_mem_nil, or_false] at hq
          rcases hq with rfl | rfl
          · rw [lbLe_t]; simp only [liLit]; omega
          · rw [lbLt_t, hlx]; exact h
        all_goals simp only [lbNot_t, lbNot_f, liLit_eq, lbEqI_t, lbEqI_f, lbLt_t, lbLt_f, fSpecial] at *
        all_goals simp only [fExt, Bool.and_eq_true, Bool.or_eq_true, beq_iff_eq, Bool.and_eq_false_iff, Bool.or_eq_false_iff, beq_eq_false_iff_ne, lbEqI_t, lbLe_t, lbEqI_f, lbLe_f] at *
        all_goals (clear hb ht e hn hf; generalize liRem (liLen x.body) 8 = r at *; generalize liLen x.body = m at *; generalize x.kind = kx at *)
        all_goals omega
      · rw [lbLt_f, hlx] at h
        have hi' : i = p.exts.length := by omega
        subst hi'
        simp only [List.drop_length, fExts, Bool.true_and]
        refine holds_bval ?_
        clear e ht hn
        generalize hc1 : fUpto p.flow (liLit 1048575) = c1
        generalize hc2 : lbEqS p.opts (lsLit []) = c2
        generalize hc3 : lbLe (liLenX p.exts) (liLit 4) = c3
        generalize hc4 : fUpto p.id (liLit 4294967295) = c4
        generalize hc5 : fSpecial p.proto = c5
        generalize hc6 : lbEqI p.id (liLit 0) = c6
        generalize hc7 : lbEqI p.off (liLit 0) = c7
        generalize hc8 : p.still = c8
        generalize hc9 : p.cut = c9
        generalize hc10 : p.more = c10
        have e6 : fR6 p = (c1 && c2 && lbNot c8 && c3 && c4 && lbNot c5 && (c9 || (c6 && c7 && lbNot c10))) := by
          rw [← hc1, ← hc2, ← hc3, ← hc4, ← hc5, ← hc6, ← hc7, ← hc8, ← hc9, ← hc10]; rfl
        rw [e6]
        clear e6 hc1 hc2 hc3 hc4 hc5 hc6 hc7 hc8 hc9 hc10
        revert c1 c2 c3 c4 c5 c6 c7 c8 c9 c10
        decide +kernel
    | n + 1, g => exact nomatch g
end Go.Adit
