/- Part of the proofs of the laws: lemmas and contracts, no statement of its own. -/
import Derived.Test.YtledohjnchnmhaaSame
import Derived.Test.YtledohjnchnmhaaSum2
set_option linter.unusedVariables false
set_option linter.unusedSimpArgs false
namespace Go.Adit
open Go.RowKit Go.Proofs
set_option maxRecDepth 100000
def c24 : List D → Option (D × List Bool)
  | [.agg x0] => (match decPkt x0 with | some y0 => some (.s (.bool (.sym ((fRight (y0))))), []) | none => none)
  | _ => none
def e24 : Entry := ⟨24, none, c24, noCallm, noDie⟩

def Con24 : Prop := ∀ (a0 : Packet), Con Go.Proofs.Try.prog 24 [.agg (encPkt false a0)] (.s (.bool (.sym ((fRight a0)))))

theorem ok24 (h : Con24) : EntryOK Go.Proofs.Try.prog e24 := by
  refine EntryOK.pure fun args r req hc hq => ?_
  unfold c24 at hc
  split at hc
  · rename_i x0
    split at hc
    · rename_i y0 hy0
      simp only [Option.some.injEq, Prod.mk.injEq] at hc
      obtain ⟨rfl, rfl⟩ := hc
      exact Con.args (h (y0)) fun w vs hv => (match vs, hv with
        | [_], ⟨h0, _⟩ => ⟨(let ⟨cs, e1, e2⟩ := h0; ⟨cs, e1, decPkt_rep hy0 e2⟩), trivial⟩)
    · cases hc
  · cases hc

def c54 : List D → Option (D × List Bool)
  | [.agg x0] => (match decPkt x0 with | some y0 => some (.s (.int .i64 (.sym ((fHead (y0))))), [fHeadOk (y0)]) | none => none)
  | _ => none
def e54 : Entry := ⟨54, none, c54, noCallm, noDie⟩

def Con54 : Prop := ∀ (a0 : Packet), (fHeadOk a0) = true → Con Go.Proofs.Try.prog 54 [.agg (encPkt false a0)] (.s (.int .i64 (.sym ((fHead a0)))))

theorem ok54 (h : Con54) : EntryOK Go.Proofs.Try.prog e54 := by
  refine EntryOK.pure fun args r req hc hq => ?_
  unfold c54 at hc
  split at hc
  · rename_i x0
    split at hc
    · rename_i y0 hy0
      simp only [Option.some.injEq, Prod.mk.injEq] at hc
      obtain ⟨rfl, rfl⟩ := hc
      exact Con.args (h (y0) (hq _ (.head _))) fun w vs hv => (match vs, hv with
        | [_], ⟨h0, _⟩ => ⟨(let ⟨cs, e1, e2⟩ := h0; ⟨cs, e1, decPkt_rep hy0 e2⟩), trivial⟩)
    · cases hc
  · cases hc


def fA4 (p : Packet) : (List UInt8) := (lsCat (lsCat (lsCat (lsCat (lsCat (lsCat (fPut (liConv .u64 (liOr .i64 (liLit 64) (liQuo .i64 (fHead p) (liLit 4)))) 1) (fPut (liConv .u64 p.cls) 1)) (fPut (liConv .u64 (liAdd .i64 (fHead p) (liLen p.pay))) 2)) (fPut (liConv .u64 p.id) 2)) (fPut (liConv .u64 (liOr .i64 (liOr .i64 (liQuo .i64 p.off (liLit 8)) (fFlag p.more (liLit 8192))) (fFlag p.still (liLit 16384)))) 2)) (fPut (liConv .u64 p.hop) 1)) (fPut (liConv .u64 p.proto) 1))
def fEnds (p : Packet) : (List UInt8) := (lsCat (fBytes p.src) (fBytes p.dst))
def fSum4 (p : Packet) : Int := (fSum (ltLit [(fA4 p), (fEnds p), p.opts]))

theorem fPut_len (n : Int) : ∀ k, (fPut n k).length = k
  | 0 => rfl
  | k + 1 => by simp only [fPut, List.length_cons, fPut_len n k]
theorem fBytes_len (a : Addr) : (fBytes a).length ≤ 16 := by
  unfold fBytes
  split
  · simp
  · split <;> simp
theorem right_exts {p : Packet} (h : fRight p = true) : p.exts.length ≤ 4 := by
  unfold fRight at h
  simp only [Bool.and_eq_true] at h
  have h2 := h.2
  split at h2
  · simp only [Bool.and_eq_true] at h2
    have h3 := h2.2
    unfold fR6 at h3
    simp only [Bool.and_eq_true, lbLe_t] at h3
    have : (p.exts.length : Int) ≤ 4 := h3.1.1.1.2
    omega
  · unfold fR4 at h2
    simp only [Bool.and_eq_true, lbEqI_t] at h2
    have : (p.exts.length : Int) = 0 := h2.1.2
    omega
theorem right_head {p : Packet} (h : fRight p = true) : fHeadOk p = true := by
  have := right_exts h
  unfold fHeadOk; rw [decide_eq_true_eq]; omega
theorem right_opts {p : Packet} (h : fRight p = true) (hv : p.src.v6 = false) : p.opts.length ≤ 40 := by
  unfold fRight at h
  simp only [Bool.and_eq_true, hv] at h
  have h2 := h.2
  simp only [Bool.false_eq_true, if_false] at h2
  unfold fR4 at h2
  simp only [Bool.and_eq_true, lbLe_t] at h2
  have : (p.opts.length : Int) ≤ 40 := h2.1.1.1.2
  omega
def fSize (p : Packet) : Int := if fRight p then liAdd .i64 (fHead p) (liLen p.pay) else 0
theorem con26 (p : Packet) : Con Try.prog 26 [.agg (encPkt false p)] (.s (.int .i64 (.sym (fSize p)))) :=
  con_flat tryBase (es := [e24, e54]) (by intro e he; rcases List.mem_cons.1 he with rfl | he; exact ok24 con24; rcases List.mem_singleton.1 he with rfl; exact ok54 con54) Try.func26 (by kernel_rfl) (by kernel_rfl) (by kernel_rfl) (by kernel_rfl) (by kernel_rfl)
  (t := (.ite (lbNot (fRight p))
 (.ret (.s (.int .i64 (.lit 0))) [])
 (.req [fHeadOk p]
  (.ret (.s (.int .i64 (.sym (liAdd .i64 (fHead p) (liLen p.pay))))) [])))) (by kernel_rfl) (by
  refine ⟨fun h => ?_, fun h => ⟨?_, ?_⟩⟩
  · rw [lbNot_t] at h
    refine sI_norm (a := 0) ?_
    simp [fSize, h]
  · rw [lbNot_f] at h
    intro q hq
    rcases List.mem_singleton.1 hq with rfl
    exact right_head h
  · rw [lbNot_f] at h
    refine sI_norm ?_
    simp [fSize, h])
def fSz (p : Packet) : Int := liAdd .i64 (fHead p) (liLen p.pay)
def fFour (p : Packet) : (List UInt8) := lsCat (lsCat (lsCat (lsCat (fA4 p) (fPut (liConv .u64 (fSum4 p)) 2)) (fEnds p)) p.opts) p.pay
def fBuild4 (p : Packet) : (List UInt8) × Int := if fRight p then (if lbLt 65535 (fSz p) then ([], 75) else (fFour p, 0)) else ([], 1)
theorem con21_4 (p : Packet) (hv : p.src.v6 = false) (hp : p.pay.length ≤ 2 ^ 40) : Con Try.prog 21 [.agg (encPkt false p)] (.tup [.s (.str (fBuild4 p).1), .s (.int .i64 (.sym (fBuild4 p).2))]) :=
  con_flat tryBase (es := [e24, e54, e55, e56, e57, e58]) (by
    intro e he
    rcases List.mem_cons.1 he with rfl | he; exact ok24 con24
    rcases List.mem_cons.1 he with rfl | he; exact ok54 con54
    rcases List.mem_cons.1 he with rfl | he; exact ok55 con55
    rcases List.mem_cons.1 he with rfl | he; exact ok56
    rcases List.mem_cons.1 he with rfl | he; exact ok57 con57
    rcases List.mem_singleton.1 he with rfl; exact ok58) Try.func21 (by kernel_rfl) (by kernel_rfl) (by kernel_rfl) (by kernel_rfl) (by kernel_rfl)
  (t := (.ite (lbNot (fRight p))
 (.ret (.tup [.s (.str (lsLit [])), .s (.int .i64 (.lit 1))]) [])
 (.req [fHeadOk p]
  (.req [(lbRoom (fBytes p.src) (fBytes p.dst))]
   (.ite (lbNot p.src.v6)
    (.ite (lbLt (liLit 65535) (liAdd .i64 (fHead p) (liLen p.pay)))
     (.ret (.tup [.s (.str (lsLit [])), .s (.int .i64 (.lit 75))]) [])
     (.req [(lbRoom (fPut (liConv .u64 (liOr .i64 (liLit 64) (liQuo .i64 (fHead p) (liLit 4)))) 1) (fPut (liConv .u64 p.cls) 1)), (lbRoom (lsCat (fPut (liConv .u64 (liOr .i64 (liLit 64) (liQuo .i64 (fHead p) (liLit 4)))) 1) (fPut (liConv .u64 p.cls) 1)) (fPut (liConv .u64 (liAdd .i64 (fHead p) (liLen p.pay))) 2)), (lbRoom (lsCat (lsCat (fPut (liConv .u64 (liOr .i64 (liLit 64) (liQuo .i64 (fHead p) (liLit 4)))) 1) (fPut (liConv .u64 p.cls) 1)) (fPut (liConv .u64 (liAdd .i64 (fHead p) (liLen p.pay))) 2)) (fPut (liConv .u64 p.id) 2)), (lbRoom (lsCat (lsCat (lsCat (fPut (liConv .u64 (liOr .i64 (liLit 64) (liQuo .i64 (fHead p) (liLit 4)))) 1) (fPut (liConv .u64 p.cls) 1)) (fPut (liConv .u64 (liAdd .i64 (fHead p) (liLen p.pay))) 2)) (fPut (liConv .u64 p.id) 2)) (fPut (liConv .u64 (liOr .i64 (liOr .i64 (liQuo .i64 p.off (liLit 8)) (fFlag p.more (liLit 8192))) (fFlag p.still (liLit 16384)))) 2)), (lbRoom (lsCat (lsCat (lsCat (lsCat (fPut (liConv .u64 (liOr .i64 (liLit 64) (liQuo .i64 (fHead p) (liLit 4)))) 1) (fPut (liConv .u64 p.cls) 1)) (fPut (liConv .u64 (liAdd .i64 (fHead p) (liLen p.pay))) 2)) (fPut (liConv .u64 p.id) 2)) (fPut (liConv .u64 (liOr .i64 (liOr .i64 (liQuo .i64 p.off (liLit 8)) (fFlag p.more (liLit 8192))) (fFlag p.still (liLit 16384)))) 2)) (fPut (liConv .u64 p.hop) 1)), (lbRoom (lsCat (lsCat (lsCat (lsCat (lsCat (fPut (liConv .u64 (liOr .i64 (liLit 64) (liQuo .i64 (fHead p) (liLit 4)))) 1) (fPut (liConv .u64 p.cls) 1)) (fPut (liConv .u64 (liAdd .i64 (fHead p) (liLen p.pay))) 2)) (fPut (liConv .u64 p.id) 2)) (fPut (liConv .u64 (liOr .i64 (liOr .i64 (liQuo .i64 p.off (liLit 8)) (fFlag p.more (liLit 8192))) (fFlag p.still (liLit 16384)))) 2)) (fPut (liConv .u64 p.hop) 1)) (fPut (liConv .u64 p.proto) 1))]
      (.req [(fSumOk (ltLit [(fA4 p), (fEnds p), p.opts])), (lbRoom (fA4 p) (fPut (liConv .u64 (fSum4 p)) 2)), (lbRoom (lsCat (fA4 p) (fPut (liConv .u64 (fSum4 p)) 2)) (fEnds p)), (lbRoom (lsCat (lsCat (fA4 p) (fPut (liConv .u64 (fSum4 p)) 2)) (fEnds p)) p.opts), (lbRoom (lsCat (lsCat (lsCat (fA4 p) (fPut (liConv .u64 (fSum4 p)) 2)) (fEnds p)) p.opts) p.pay)]
       (.ret (.tup [.s (.str (lsCat (lsCat (lsCat (lsCat (fA4 p) (fPut (liConv .u64 (fSum4 p)) 2)) (fEnds p)) p.opts) p.pay)), .s (.int .i64 (.lit 0))]) []))))
    (.ite (lbLt (liLit 65535) (liSub .i64 (liAdd .i64 (fHead p) (liLen p.pay)) (liLit 40)))
     (.ret (.tup [.s (.str (lsLit [])), .s (.int .i64 (.lit 75))]) [])
     (.ite p.cut
      (.req [(lbRoom (fPut (liConv .u64 p.proto) 1) (fPut (liConv .u64 (liLit 0)) 1)), (lbRoom (lsCat (fPut (liConv .u64 p.proto) 1) (fPut (liConv .u64 (liLit 0)) 1)) (fPut (liConv .u64 (liOr .i64 p.off (fFlag p.more (liLit 1)))) 2)), (lbRoom (lsCat (lsCat (fPut (liConv .u64 p.proto) 1) (fPut (liConv .u64 (liLit 0)) 1)) (fPut (liConv .u64 (liOr .i64 p.off (fFlag p.more (liLit 1)))) 2)) (fPut (liConv .u64 p.id) 4)), (lbRoom (lsCat (lsCat (lsCat (fPut (liConv .u64 p.proto) 1) (fPut (liConv .u64 (liLit 0)) 1)) (fPut (liConv .u64 (liOr .i64 p.off (fFlag p.more (liLit 1)))) 2)) (fPut (liConv .u64 p.id) 4)) p.pay)]
       (.fail 102))
      (.fail 102)))))))) (by kernel_rfl) (by
  have l1 := fBytes_len p.src
  have l2 := fBytes_len p.dst
  refine ⟨fun h => ?_, fun h => ⟨?_, ?_, fun hv' => ⟨fun hb => ?_, fun hb => ⟨?_, ?_, ?_⟩⟩, fun hv' => ?_⟩⟩
  · rw [lbNot_t] at h
    have e : fBuild4 p = ([], 1) := by simp [fBuild4, h]
    rw [e]; rfl
  · rw [lbNot_f] at h
    intro q hq
    rcases List.mem_singleton.1 hq with rfl
    exact right_head h
  · intro q hq
    rcases List.mem_singleton.1 hq with rfl
    rw [lbRoom_t]; omega
  · rw [lbNot_f] at h
    have e : fBuild4 p = ([], 75) := by
      have : lbLt 65535 (fSz p) = true := hb
      simp [fBuild4, h, this]
    rw [e]; rfl
  · refine List.forall_mem_cons.2 ⟨?_, List.forall_mem_cons.2 ⟨?_, List.forall_mem_cons.2 ⟨?_, List.forall_mem_cons.2 ⟨?_, List.forall_mem_cons.2 ⟨?_, List.forall_mem_cons.2 ⟨?_, fun _ h => nomatch h⟩⟩⟩⟩⟩⟩
    all_goals simp only [lbRoom_t, lsCat, List.length_append, fPut_len]; omega
  · rw [lbNot_f] at h
    have l3 := right_opts h hv
    refine List.forall_mem_cons.2 ⟨?_, List.forall_mem_cons.2 ⟨?_, List.forall_mem_cons.2 ⟨?_, List.forall_mem_cons.2 ⟨?_, List.forall_mem_cons.2 ⟨?_, fun _ h => nomatch h⟩⟩⟩⟩⟩
    · simp only [fSumOk, ltLit, decide_eq_true_eq, List.flatten_cons, List.flatten_nil, List.length_append, List.length_nil, fA4, fEnds, lsCat, fPut_len]; omega
    all_goals simp only [lbRoom_t, fA4, fEnds, lsCat, List.length_append, fPut_len]; omega
  · rw [lbNot_f] at h
    have e : fBuild4 p = (fFour p, 0) := by
      have : lbLt 65535 (fSz p) = false := hb
      simp [fBuild4, h, this]
    rw [e]; rfl
  · rw [lbNot_f, hv] at hv'; cases hv')
end Go.Adit
