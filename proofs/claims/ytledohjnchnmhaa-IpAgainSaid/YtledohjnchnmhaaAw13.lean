/- Part of the proofs of the laws: lemmas and contracts, no statement of its own. -/
import Derived.Test.YtledohjnchnmhaaBuild4
import Derived.Test.YtledohjnchnmhaaParse
set_option linter.unusedVariables false
set_option linter.unusedSimpArgs false
namespace Go.Adit
open Go.RowKit Go.Proofs
set_option maxRecDepth 100000
theorem Con.res {P : Program} {f : FuncId} {args : List D} {r r' : D} (h : Con P f args r) (e : r.norm = r'.norm) : Con P f args r' :=
  ⟨h.1, fun w vs hv => (h.2 w vs hv).mono fun _ _ ⟨u, h1, h2, h3⟩ => ⟨u, h1, repD_eq e h2, h3⟩⟩
def isFour (b : List UInt8) : Bool := lbLe 20 (liLen b) && lbEqI (liShr .u8 (liOfByte (lsAt b 0)) 4) 4
def r4fine (b : List UInt8) : Bool := (r4err b).isNone
theorem con29_4 (b : List UInt8) (hf : isFour b = true) (hr : r4fine b = true) : Con Try.prog 29 [.s (.str b)] (.tup [.agg (encPkt true (r4pkt b)), .s (.int .i64 (.sym 0))]) := by
  unfold isFour at hf
  simp only [Bool.and_eq_true] at hf
  obtain ⟨hl, h4⟩ := hf
  have he : r4err b = none := by unfold r4fine at hr; simpa using hr
  have hd : r4dies b = false := by simp [r4dies, he]
  refine con29_of (e := 0) (es := [e75, e76]) (by intro e he; rcases List.mem_cons.1 he with rfl | he; exact ok75; rcases List.mem_singleton.1 he with rfl; exact ok76)
    (fun f k h => by
      unfold eLent at h
      split at h
      · rename_i e he
        have := (findE_of he).1
        rcases List.mem_cons.1 this with rfl | this
        · cases h
        · rcases List.mem_singleton.1 this with rfl; cases h; rfl
      · cases h)
    (by kernel_rfl) b (t := (.ite (lbNot (lbNot (lbEqS b (lsLit []))))
 (.req []
  (.die (70)))
 (.req [(lbLe (liLit 0) (liLit 0)), (lbLt (liLit 0) (liLen b))]
  (.ite (lbEqI (liShr .u8 (liOfByte (lsAt b (liLit 0))) (liLit 4)) (liLit 4))
   (.ite (lbEqI (liShr .u8 (liOfByte (lsAt b (liLit 0))) (liLit 4)) (liLit 4))
    (.ite (lbNot (lbLe (liLit 20) (liLen b)))
     (.req []
      (.die (70)))
     (.ite (r4dies b)
      (.req [(lbLe (liLit 20) (liLen b))]
       (.die (r4code b)))
      (.req [(lbLe (liLit 20) (liLen b))]
       (.ret (.tup [.agg [.bool (.sym (r4pkt b).src.v6), .byte (r4pkt b).src.b0, .byte (r4pkt b).src.b1, .byte (r4pkt b).src.b2, .byte (r4pkt b).src.b3, .byte (r4pkt b).src.b4, .byte (r4pkt b).src.b5, .byte (r4pkt b).src.b6, .byte (r4pkt b).src.b7, .byte (r4pkt b).src.b8, .byte (r4pkt b).src.b9, .byte (r4pkt b).src.b10, .byte (r4pkt b).src.b11, .byte (r4pkt b).src.b12, .byte (r4pkt b).src.b13, .byte (r4pkt b).src.b14, .byte (r4pkt b).src.b15, .bool (.sym (r4pkt b).dst.v6), .byte (r4pkt b).dst.b0, .byte (r4pkt b).dst.b1, .byte (r4pkt b).dst.b2, .byte (r4pkt b).dst.b3, .byte (r4pkt b).dst.b4, .byte (r4pkt b).dst.b5, .byte (r4pkt b).dst.b6, .byte (r4pkt b).dst.b7, .byte (r4pkt b).dst.b8, .byte (r4pkt b).dst.b9, .byte (r4pkt b).dst.b10, .byte (r4pkt b).dst.b11, .byte (r4pkt b).dst.b12, .byte (r4pkt b).dst.b13, .byte (r4pkt b).dst.b14, .byte (r4pkt b).dst.b15, .int .i64 (.sym (r4pkt b).proto), .int .i64 (.sym (r4pkt b).hop), .int .i64 (.sym (r4pkt b).cls), .int .i64 (.sym (r4pkt b).id), .int .i64 (.sym (r4pkt b).off), .bool (.sym (r4pkt b).more), .bool (.sym (r4pkt b).still), .str (r4pkt b).opts, .int .i64 (.sym (r4pkt b).flow), .exts (r4pkt b).exts true, .bool (.sym (r4pkt b).cut), .str (r4pkt b).pay], .s (.int .i64 (.lit 0))]) [.bool (.sym (r4pkt b).src.v6), .byte (r4pkt b).src.b0, .byte (r4pkt b).src.b1, .byte (r4pkt b).src.b2, .byte (r4pkt b).src.b3, .byte (r4pkt b).src.b4, .byte (r4pkt b).src.b5, .byte (r4pkt b).src.b6, .byte (r4pkt b).src.b7, .byte (r4pkt b).src.b8, .byte (r4pkt b).src.b9, .byte (r4pkt b).src.b10, .byte (r4pkt b).src.b11, .byte (r4pkt b).src.b12, .byte (r4pkt b).src.b13, .byte (r4pkt b).src.b14, .byte (r4pkt b).src.b15, .bool (.sym (r4pkt b).dst.v6), .byte (r4pkt b).dst.b0, .byte (r4pkt b).dst.b1, .byte (r4pkt b).dst.b2, .byte (r4pkt b).dst.b3, .byte (r4pkt b).dst.b4, .byte (r4pkt b).dst.b5, .byte (r4pkt b).dst.b6, .byte (r4pkt b).dst.b7, .byte (r4pkt b).dst.b8, .byte (r4pkt b).dst.b9, .byte (r4pkt b).dst.b10, .byte (r4pkt b).dst.b11, .byte (r4pkt b).dst.b12, .byte (r4pkt b).dst.b13, .byte (r4pkt b).dst.b14, .byte (r4pkt b).dst.b15, .int .i64 (.sym (r4pkt b).proto), .int .i64 (.sym (r4pkt b).hop), .int .i64 (.sym (r4pkt b).cls), .int .i64 (.sym (r4pkt b).id), .int .i64 (.sym (r4pkt b).off), .bool (.sym (r4pkt b).more), .bool (.sym (r4pkt b).still), .str (r4pkt b).opts, .int .i64 (.sym (r4pkt b).flow), .exts (r4pkt b).exts true, .bool (.sym (r4pkt b).cut), .str (r4pkt b).pay]))))
    (.ite (lbNot (lbLe (liLit 40) (liLen b)))
     (.req []
      (.die (70)))
     (.fail 101)))
   (.ite (lbNot (lbEqI (liShr .u8 (liOfByte (lsAt b (liLit 0))) (liLit 4)) (liLit 6)))
    (.req []
     (.die (71)))
    (.ite (lbEqI (liShr .u8 (liOfByte (lsAt b (liLit 0))) (liLit 4)) (liLit 4))
     (.ite (lbNot (lbLe (liLit 20) (liLen b)))
      (.req []
       (.die (70)))
      (.ite (r4dies b)
       (.req [(lbLe (liLit 20) (liLen b))]
        (.die (r4code b)))
       (.req [(lbLe (liLit 20) (liLen b))]
        (.ret (.tup [.agg [.bool (.sym (r4pkt b).src.v6), .byte (r4pkt b).src.b0, .byte (r4pkt b).src.b1, .byte (r4pkt b).src.b2, .byte (r4pkt b).src.b3, .byte (r4pkt b).src.b4, .byte (r4pkt b).src.b5, .byte (r4pkt b).src.b6, .byte (r4pkt b).src.b7, .byte (r4pkt b).src.b8, .byte (r4pkt b).src.b9, .byte (r4pkt b).src.b10, .byte (r4pkt b).src.b11, .byte (r4pkt b).src.b12, .byte (r4pkt b).src.b13, .byte (r4pkt b).src.b14, .byte (r4pkt b).src.b15, .bool (.sym (r4pkt b).dst.v6), .byte (r4pkt b).dst.b0, .byte (r4pkt b).dst.b1, .byte (r4pkt b).dst.b2, .byte (r4pkt b).dst.b3, .byte (r4pkt b).dst.b4, .byte (r4pkt b).dst.b5, .byte (r4pkt b).dst.b6, .byte (r4pkt b).dst.b7, .byte (r4pkt b).dst.b8, .byte (r4pkt b).dst.b9, .byte (r4pkt b).dst.b10, .byte (r4pkt b).dst.b11, .byte (r4pkt b).dst.b12, .byte (r4pkt b).dst.b13, .byte (r4pkt b).dst.b14, .byte (r4pkt b).dst.b15, .int .i64 (.sym (r4pkt b).proto), .int .i64 (.sym (r4pkt b).hop), .int .i64 (.sym (r4pkt b).cls), .int .i64 (.sym (r4pkt b).id), .int .i64 (.sym (r4pkt b).off), .bool (.sym (r4pkt b).more), .bool (.sym (r4pkt b).still), .str (r4pkt b).opts, .int .i64 (.sym (r4pkt b).flow), .exts (r4pkt b).exts true, .bool (.sym (r4pkt b).cut), .str (r4pkt b).pay], .s (.int .i64 (.lit 0))]) [.bool (.sym (r4pkt b).src.v6), .byte (r4pkt b).src.b0, .byte (r4pkt b).src.b1, .byte (r4pkt b).src.b2, .byte (r4pkt b).src.b3, .byte (r4pkt b).src.b4, .byte (r4pkt b).src.b5, .byte (r4pkt b).src.b6, .byte (r4pkt b).src.b7, .byte (r4pkt b).src.b8, .byte (r4pkt b).src.b9, .byte (r4pkt b).src.b10, .byte (r4pkt b).src.b11, .byte (r4pkt b).src.b12, .byte (r4pkt b).src.b13, .byte (r4pkt b).src.b14, .byte (r4pkt b).src.b15, .bool (.sym (r4pkt b).dst.v6), .byte (r4pkt b).dst.b0, .byte (r4pkt b).dst.b1, .byte (r4pkt b).dst.b2, .byte (r4pkt b).dst.b3, .byte (r4pkt b).dst.b4, .byte (r4pkt b).dst.b5, .byte (r4pkt b).dst.b6, .byte (r4pkt b).dst.b7, .byte (r4pkt b).dst.b8, .byte (r4pkt b).dst.b9, .byte (r4pkt b).dst.b10, .byte (r4pkt b).dst.b11, .byte (r4pkt b).dst.b12, .byte (r4pkt b).dst.b13, .byte (r4pkt b).dst.b14, .byte (r4pkt b).dst.b15, .int .i64 (.sym (r4pkt b).proto), .int .i64 (.sym (r4pkt b).hop), .int .i64 (.sym (r4pkt b).cls), .int .i64 (.sym (r4pkt b).id), .int .i64 (.sym (r4pkt b).off), .bool (.sym (r4pkt b).more), .bool (.sym (r4pkt b).still), .str (r4pkt b).opts, .int .i64 (.sym (r4pkt b).flow), .exts (r4pkt b).exts true, .bool (.sym (r4pkt b).cut), .str (r4pkt b).pay]))))
     (.ite (lbNot (lbLe (liLit 40) (liLen b)))
      (.req []
       (.die (70)))
      (.fail 101)))))))) (by kernel_rfl) ?_
  have hl' : (20 : Int) ≤ (b.length : Int) := by rw [lbLe_t] at hl; exact hl
  have hb : b ≠ [] := by intro e; subst e; simp at hl'
  have c0 : lbNot (lbNot (lbEqS b (lsLit []))) = false := by
    rw [lbNot_f, lbNot_t, lbEqS_f]; exact hb
  have c2 : lbNot (lbLe (liLit 20) (liLen b)) = false := by rw [lbNot_f]; exact hl
  have c3 : lbEqI (liShr .u8 (liOfByte (lsAt b (liLit 0))) (liLit 4)) (liLit 4) = true := h4
  simp only [Tr.holds, c0, c2, c3, hd, Bool.false_eq_true, Bool.true_eq_false, false_implies, true_implies, true_and, and_true]
  refine ⟨?_, ?_, ?_⟩
  · refine List.forall_mem_cons.2 ⟨by decide, List.forall_mem_cons.2 ⟨?_, fun _ h => nomatch h⟩⟩
    rw [lbLt_t]; show (0 : Int) < (b.length : Int); omega
  · exact List.forall_mem_cons.2 ⟨hl, fun _ h => nomatch h⟩
  · rfl
def fBuildS (p : Packet) : List UInt8 := (fBuild4 p).1
def fBuildE (p : Packet) : Int := (fBuild4 p).2
def fPayOk (p : Packet) : Bool := decide (p.pay.length ≤ 2 ^ 40)
def c21 : List D → Option (D × List Bool)
  | [.agg x] => match decPkt x with
    | some y => some (.tup [.s (.str (fBuildS y)), .s (.int .i64 (.sym (fBuildE y)))], [lbNot y.src.v6, fPayOk y])
    | none => none
  | _ => none
def e21 : Entry := ⟨21, none, c21, noCallm, noDie⟩
def c29 : List D → Option (D × List Bool)
  | [.s (.str b)] => some (.tup [.agg (encPkt true (r4pkt b)), .s (.int .i64 (.lit 0))], [isFour b, r4fine b])
  | _ => none
def e29 : Entry := ⟨29, none, c29, noCallm, noDie⟩

theorem ok21 : EntryOK Try.prog e21 := by
  refine EntryOK.pure fun args r req hc hq => ?_
  unfold c21 at hc
  split at hc
  · rename_i x0
    split at hc
    · rename_i y0 hy0
      simp only [Option.some.injEq, Prod.mk.injEq] at hc
      obtain ⟨rfl, rfl⟩ := hc
      have h1 := hq _ (.head _)
      have h2 := hq _ (.tail _ (.head _))
      rw [lbNot_t] at h1
      exact Con.args (con21_4 y0 h1 (by simpa [fPayOk] using h2)) fun w vs hv => (match vs, hv with
        | [_], ⟨h0, _⟩ => ⟨(let ⟨cs, e1, e2⟩ := h0; ⟨cs, e1, decPkt_rep hy0 e2⟩), trivial⟩)
    · cases hc
  · cases hc
theorem ok29 : EntryOK Try.prog e29 := by
  refine EntryOK.pure fun args r req hc hq => ?_
  unfold c29 at hc
  split at hc
  · rename_i x0
    simp only [Option.some.injEq, Prod.mk.injEq] at hc
    obtain ⟨rfl, rfl⟩ := hc
    exact (con29_4 x0 (hq _ (.head _)) (hq _ (.tail _ (.head _)))).res rfl
  · cases hc
def c26 : List D → Option (D × List Bool)
  | [.agg x0] => (match decPkt x0 with | some y0 => some (.s (.int .i64 (.sym ((fSize (y0))))), []) | none => none)
  | _ => none
def e26 : Entry := ⟨26, none, c26, noCallm, noDie⟩

def Con26 : Prop := ∀ (a0 : Packet), Con Go.Proofs.Try.prog 26 [.agg (encPkt false a0)] (.s (.int .i64 (.sym ((fSize a0)))))

theorem ok26 (h : Con26) : EntryOK Go.Proofs.Try.prog e26 := by
  refine EntryOK.pure fun args r req hc hq => ?_
  unfold c26 at hc
  split at hc
  · rename_i x0
    split at hc
    · rename_i y0 hy0
      simp only [Option.some.injEq, Prod.mk.injEq] at hc
      obtain ⟨rfl, rfl⟩ := hc
      exact Con.args (h (y0)) fun w vs hv => (match vs, hv with
        | [_], ⟨h0, _⟩ => ⟨(let ⟨cs, e1, e2⟩ := h0; ⟨cs, e1, decPkt_rep hy0 e2⟩), trivial⟩)
    · cases hc
  · cases hc

def c30 : List D → Option (D × List Bool)
  | [.agg x0, .agg x1] => (match decPkt x0 with | some y0 => (match decPkt x1 with | some y1 => some (.s (.bool (.sym ((fSame (y0) (y1))))), []) | none => none) | none => none)
  | _ => none
def e30 : Entry := ⟨30, none, c30, noCallm, noDie⟩

def Con30 : Prop := ∀ (a0 : Packet) (a1 : Packet), Con Go.Proofs.Try.prog 30 [.agg (encPkt false a0), .agg (encPkt false a1)] (.s (.bool (.sym ((fSame a0 a1)))))

theorem ok30 (h : Con30) : EntryOK Go.Proofs.Try.prog e30 := by
  refine EntryOK.pure fun args r req hc hq => ?_
  unfold c30 at hc
  split at hc
  · rename_i x0 x1
    split at hc
    · rename_i y0 hy0
      split at hc
      · rename_i y1 hy1
        simp only [Option.some.injEq, Prod.mk.injEq] at hc
        obtain ⟨rfl, rfl⟩ := hc
        exact Con.args (h (y0) (y1)) fun w vs hv => (match vs, hv with
          | [_, _], ⟨h0, h1, _⟩ => ⟨(let ⟨cs, e1, e2⟩ := h0; ⟨cs, e1, decPkt_rep hy0 e2⟩), (let ⟨cs, e1, e2⟩ := h1; ⟨cs, e1, decPkt_rep hy1 e2⟩), trivial⟩)
      · cases hc
    · cases hc
  · cases hc

def c23 : List D → Option (D × List Bool)
  | [.agg x0, .agg x1] => (match decPkt x0 with | some y0 => (match decPkt x1 with | some y1 => some (.s (.bool (.sym ((fSame (y0) (y1))))), []) | none => none) | none => none)
  | _ => none
def e23 : Entry := ⟨23, none, c23, noCallm, noDie⟩

def Con23 : Prop := ∀ (a0 : Packet) (a1 : Packet), Con Go.Proofs.Try.prog 23 [.agg (encPkt false a0), .agg (encPkt false a1)] (.s (.bool (.sym ((fSame a0 a1)))))

theorem ok23 (h : Con23) : EntryOK Go.Proofs.Try.prog e23 := by
  refine EntryOK.pure fun args r req hc hq => ?_
  unfold c23 at hc
  split at hc
  · rename_i x0 x1
    split at hc
    · rename_i y0 hy0
      split at hc
      · rename_i y1 hy1
        simp only [Option.some.injEq, Prod.mk.injEq] at hc
        obtain ⟨rfl, rfl⟩ := hc
        exact Con.args (h (y0) (y1)) fun w vs hv => (match vs, hv with
          | [_, _], ⟨h0, h1, _⟩ => ⟨(let ⟨cs, e1, e2⟩ := h0; ⟨cs, e1, decPkt_rep hy0 e2⟩), (let ⟨cs, e1, e2⟩ := h1; ⟨cs, e1, decPkt_rep hy1 e2⟩), trivial⟩)
      · cases hc
    · cases hc
  · cases hc


theorem con19 : Con Try.prog 19 [] (.s (.bool (.sym true))) :=
  con_flat tryBase (es := [e53, e21, e29, e26, e24]) (by
    intro e he
    rcases List.mem_cons.1 he with rfl | he; exact ok53 con53
    rcases List.mem_cons.1 he with rfl | he; exact ok21
    rcases List.mem_cons.1 he with rfl | he; exact ok29
    rcases List.mem_cons.1 he with rfl | he; exact ok26 con26
    rcases List.mem_singleton.1 he with rfl; exact ok24 con24) Try.func19 (by kernel_rfl) (by kernel_rfl) (by kernel_rfl) (by kernel_rfl) (by kernel_rfl)
  (t := (.req [(lbNot (fSmall).src.v6), (fPayOk (fSmall))]
 (.req [(isFour (fBuildS (fSmall))), (r4fine (fBuildS (fSmall)))]
  (.ite (lbEqI (fBuildE (fSmall)) (liLit 0))
   (.ite (lbEqI (liLen (fBuildS (fSmall))) (liLit 22))
    (.ite (lbEqI (liOfByte (lsAt (fBuildS (fSmall)) (liLit 0))) (liLit 69))
     (.ite (lbEqI (liOfByte (lsAt (fBuildS (fSmall)) (liLit 9))) (liLit 17))
      (.ite (lbEqS (r4pkt (fBuildS (fSmall))).pay (lsLit [104, 105]))
       (.ite (lbEqI (r4pkt (fBuildS (fSmall))).hop (liLit 64))
        (.ite (lbEqI (fSize (fSmall)) (liLit 22))
         (.req [(lbLe (liLit 0) (liLit 0)), (lbLt (liLit 0) (liLen (fBuildS (fSmall)))), (lbLe (liLit 0) (liLit 9)), (lbLt (liLit 9) (liLen (fBuildS (fSmall))))]
          (.ret (.s (.bool (.sym (fRight (fSmall))))) []))
         (.req [(lbLe (liLit 0) (liLit 0)), (lbLt (liLit 0) (liLen (fBuildS (fSmall)))), (lbLe (liLit 0) (liLit 9)), (lbLt (liLit 9) (liLen (fBuildS (fSmall))))]
          (.ret (.s (.bool (.lit false))) [])))
        (.req [(lbLe (liLit 0) (liLit 0)), (lbLt (liLit 0) (liLen (fBuildS (fSmall)))), (lbLe (liLit 0) (liLit 9)), (lbLt (liLit 9) (liLen (fBuildS (fSmall))))]
         (.ret (.s (.bool (.lit false))) [])))
       (.req [(lbLe (liLit 0) (liLit 0)), (lbLt (liLit 0) (liLen (fBuildS (fSmall)))), (lbLe (liLit 0) (liLit 9)), (lbLt (liLit 9) (liLen (fBuildS (fSmall))))]
        (.ret (.s (.bool (.lit false))) [])))
      (.req [(lbLe (liLit 0) (liLit 0)), (lbLt (liLit 0) (liLen (fBuildS (fSmall)))), (lbLe (liLit 0) (liLit 9)), (lbLt (liLit 9) (liLen (fBuildS (fSmall))))]
       (.ret (.s (.bool (.lit false))) [])))
     (.req [(lbLe (liLit 0) (liLit 0)), (lbLt (liLit 0) (liLen (fBuildS (fSmall))))]
      (.ret (.s (.bool (.lit false))) [])))
    (.ret (.s (.bool (.lit false))) []))
   (.ret (.s (.bool (.lit false))) []))))) (by kernel_rfl) (holds_bval (by decide +kernel))
end Go.Adit
