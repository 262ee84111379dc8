/- Part of the proofs of the laws: lemmas and contracts, no statement of its own. -/
import Derived.Test.YtledohjnchnmhaaB6f
set_option linter.unusedVariables false
set_option linter.unusedSimpArgs false
namespace Go.Adit
open Go.RowKit Go.Proofs Go.Shelf
set_option maxRecDepth 100000
def fSix (p : Packet) : (List UInt8) := fSixOf p ((p.exts.reverse).foldl step6 (kind0 p, rest0 p))
def fBuild (p : Packet) : (List UInt8) × Int := if fRight p then (if p.src.v6 then (if lbLt 65535 (liSub .i64 (fSz p) 40) then ([], 75) else (fSix p, 0)) else (if lbLt 65535 (fSz p) then ([], 75) else (fFour p, 0))) else ([], 1)
theorem upto_back (l : List Ext) (hg : ∀ e ∈ l, GoodE e) : (upto (backG l hg) l.length).map (fun x => x.1.2) = l.reverse := by
  apply List.ext_getElem
  · simp [upto]
  · intro i h1 h2
    have hi : i < l.length := by simpa using h2
    simp only [upto, List.getElem_map, List.getElem_range, backG, backAt, List.getElem_reverse, List.getD_eq_getElem?_getD]
    rw [List.getElem?_eq_getElem (by omega)]
    rfl
theorem out6_eq (p : Packet) (hg : ∀ e ∈ p.exts, GoodE e) : fSixOf p (out6 p hg) = fSix p := by
  unfold fSix out6 st6
  rw [← upto_back p.exts hg, List.foldl_map]
theorem unspine21 : bodyOf Try.f21 = (spineL (bodyOf Try.f21)).foldr .seq ((spineX (bodyOf Try.f21)).seq (spineT (bodyOf Try.f21))) := by kernel_rfl

theorem con21 (p : Packet) (hp : p.pay.length ≤ 2 ^ 40) : Con Try.prog 21 [.agg (encPkt false p)] (.tup [.s (.str (fBuild p).1), .s (.int .i64 (.sym (fBuild p).2))]) := by
  refine ⟨⟨_, Try.func21, by kernel_rfl, by kernel_rfl⟩, fun w vs hv => ?_⟩
  have hlen := hv.length
  refine callsIn_wide.1 (callsIn_of_wp_marks (n := 3) Try.func21 (c := bodyOf Try.f21) (by kernel_rfl) trivial (wpIn_wide.2 ?_) rfl)
  rw [unspine21]
  have l1 := fBytes_len p.src
  have l2 := fBytes_len p.dst
  have ht : sym cfg21 zs Try.f21.results.toList 5000 ((spineL (bodyOf Try.f21)).map (.code 0) ++ [.mark 0]) (st0 [.agg (encPkt false p)]) = (.ite (lbNot (fRight p))
 (.ret (.tup [.s (.str (lsLit [])), .s (.int .i64 (.lit 1))]) [])
 (.req [fHeadOk p]
  (.req [(lbRoom (fBytes p.src) (fBytes p.dst))]
   (.ite (lbNot p.src.v6)
    (.ite (lbLt (liLit 65535) (liAdd .i64 (fHead p) (liLen p.pay)))
     (.ret (.tup [.s (.str (lsLit [])), .s (.int .i64 (.lit 75))]) [])
     (.req [(lbRoom (fPut (liConv .u64 (liOr .i64 (liLit 64) (liQuo .i64 (fHead p) (liLit 4)))) 1) (fPut (liConv .u64 p.cls) 1)), (lbRoom (lsCat (fPut (liConv .u64 (liOr .i64 (liLit 64) (liQuo .i64 (fHead p) (liLit 4)))) 1) (fPut (liConv .u64 p.cls) 1)) (fPut (liConv .u64 (liAdd .i64 (fHead p) (liLen p.pay))) 2)), (lbRoom (lsCat (lsCat (fPut (liConv .u64 (liOr .i64 (liLit 64) (liQuo .i64 (fHead p) (liLit 4)))) 1) (fPut (liConv .u64 p.cls) 1)) (fPut (liConv .u64 (liAdd .i64 (fHead p) (liLen p.pay))) 2)) (fPut (liConv .u64 p.id) 2)), (lbRoom (lsCat (lsCat (lsCat (fPut (liConv .u64 (liOr .i64 (liLit 64) (liQuo .i64 (fHead p) (liLit 4)))) 1) (fPut (liConv .u64 p.cls) 1)) (fPut (liConv .u64 (liAdd .i64 (fHead p) (liLen p.pay))) 2)) (fPut (liConv .u64 p.id) 2)) (fPut (liConv .u64 (liOr .i64 (liOr .i64 (liQuo .i64 p.off (liLit 8)) (fFlag p.more (liLit 8192))) (fFlag p.still (liLit 16384)))) 2)), (lbRoom (lsCat (lsCat (lsCat (lsCat (fPut (liConv .u64 (liOr .i64 (liLit 64) (liQuo .i64 (fHead p) (liLit 4)))) 1) (fPut (liConv .u64 p.cls) 1)) (fPut (liConv .u64 (liAdd .i64 (fHead p) (liLen p.pay))) 2)) (fPut (liConv .u64 p.id) 2)) (fPut (liConv .u64 (liOr .i64 (liOr .i64 (liQuo .i64 p.off (liLit 8)) (fFlag p.more (liLit 8192))) (fFlag p.still (liLit 16384)))) 2)) (fPut (liConv .u64 p.hop) 1)), (lbRoom (lsCat (lsCat (lsCat (lsCat (lsCat (fPut (liConv .u64 (liOr .i64 (liLit 64) (liQuo .i64 (fHead p) (liLit 4)))) 1) (fPut (liConv .u64 p.cls) 1)) (fPut (liConv .u64 (liAdd .i64 (fHead p) (liLen p.pay))) 2)) (fPut (liConv .u64 p.id) 2)) (fPut (liConv .u64 (liOr .i64 (liOr .i64 (liQuo .i64 p.off (liLit 8)) (fFlag p.more (liLit 8192))) (fFlag p.still (liLit 16384)))) 2)) (fPut (liConv .u64 p.hop) 1)) (fPut (liConv .u64 p.proto) 1))]
      (.req [(fSumOk (ltLit [(fA4 p), (fEnds p), p.opts])), (lbRoom (fA4 p) (fPut (liConv .u64 (fSum4 p)) 2)), (lbRoom (lsCat (fA4 p) (fPut (liConv .u64 (fSum4 p)) 2)) (fEnds p)), (lbRoom (lsCat (lsCat (fA4 p) (fPut (liConv .u64 (fSum4 p)) 2)) (fEnds p)) p.opts), (lbRoom (lsCat (lsCat (lsCat (fA4 p) (fPut (liConv .u64 (fSum4 p)) 2)) (fEnds p)) p.opts) p.pay)]
       (.ret (.tup [.s (.str (lsCat (lsCat (lsCat (lsCat (fA4 p) (fPut (liConv .u64 (fSum4 p)) 2)) (fEnds p)) p.opts) p.pay)), .s (.int .i64 (.lit 0))]) []))))
    (.ite (lbLt (liLit 65535) (liSub .i64 (liAdd .i64 (fHead p) (liLen p.pay)) (liLit 40)))
     (.ret (.tup [.s (.str (lsLit [])), .s (.int .i64 (.lit 75))]) [])
     (.ite p.cut
      (.req [(lbRoom (fPut (liConv .u64 p.proto) 1) (fPut (liConv .u64 (liLit 0)) 1)), (lbRoom (lsCat (fPut (liConv .u64 p.proto) 1) (fPut (liConv .u64 (liLit 0)) 1)) (fPut (liConv .u64 (liOr .i64 p.off (fFlag p.more (liLit 1)))) 2)), (lbRoom (lsCat (lsCat (fPut (liConv .u64 p.proto) 1) (fPut (liConv .u64 (liLit 0)) 1)) (fPut (liConv .u64 (liOr .i64 p.off (fFlag p.more (liLit 1)))) 2)) (fPut (liConv .u64 p.id) 4)), (lbRoom (frag p) p.pay)]
       (.back 0 [(1, .s (.ptr 1 0)), (5, .s (.int .i64 (.sym (liAdd .i64 (fHead p) (liLen p.pay))))), (6, .s (.str (fEnds p))), (8, .s (.ptr 8 0)), (9, .s (.ptr 9 0))] [(1, ⟨encPkt false p, 27⟩), (8, ⟨[.int .i64 (.lit 44)], 3⟩), (9, ⟨[.str (lsCat (frag p) p.pay)], 9⟩)]))
      (.back 0 [(1, .s (.ptr 1 0)), (5, .s (.int .i64 (.sym (liAdd .i64 (fHead p) (liLen p.pay))))), (6, .s (.str (fEnds p))), (8, .s (.ptr 8 0)), (9, .s (.ptr 9 0))] [(1, ⟨encPkt false p, 27⟩), (8, ⟨[.int .i64 (.sym p.proto)], 3⟩), (9, ⟨[.str p.pay], 9⟩)]))))))) := by kernel_rfl
  have hR0 := rel0 (w := w) (args := [.agg (encPkt false p)]) rfl hv (n := 158) (by simp)
  refine codes_wp (w0 := b0 w) (rs := Try.f21.results.toList) (n0 := 5000) (s := st0 [.agg (encPkt false p)]) (R := fun d _ => d.norm = (D.tup [.s (.str (fBuild p).1), .s (.int .i64 (.sym (fBuild p).2))]).norm) (Rd := fun _ => False)
    (A := fun v m => (∃ k8 : IV, k8.li = kind0 p ∧ v = v21 p ∧ m = [(1, ⟨encPkt false p, 27⟩), (8, ⟨[.int .i64 k8], 3⟩), (9, ⟨[.str (rest0 p)], 9⟩)]) ∧ fRight p = true ∧ p.src.v6 = true ∧ fBuild p = (fSix p, 0))
    env21 rfl nloops_rf21 (by kernel_rfl) (by kernel_rfl) (fun A s β a w' h hR => ?_) (fun n s s1 β a w w' h => h.elim) (fun v m β a W hA hR => ?_) ?_ hR0
  · obtain ⟨v, d, l, g1, g2, g3, g4, _⟩ := finish_ok env21 hR h
    have hd : a.defers = [] := hR.dfr
    have key : LeavesInM Fence.wide 3 Try.prog Try.f21 a.tmps (fun e w' => ∃ u, e = .returned u ∧ RepD (fun _ => none) (fun b => w.heap.size ≤ b) w' (.tup [.s (.str (fBuild p).1), .s (.int .i64 (.sym (fBuild p).2))]) u ∧ Below w.heap.size w w') a.defers .returning w' := by
      rw [hd]
      exact ⟨v, g1, v, rfl, repD_eq g4 (g2.clean g3), ⟨hR.bel.os, hR.bel.tape, hR.bel.output, hR.bel.size, fun k hk => hR.bel.block k hk (fun h => h)⟩⟩
    exact ⟨key, key⟩
  · obtain ⟨⟨k8, hk8, rfl, rfl⟩, hr, hv6, hb⟩ := hA
    have hR' : Rel (b0 w) 158 (St.of (v21 p) (m21 p (kind0 p, rest0 p))) β a W := hR.norm rfl (by
      simp only [normM, m21, List.map_cons, List.map_nil, Blk.norm, SC.norm, hk8]
      rfl)
    have hg := hgood hr hv6
    exact loop21 hp hg (right_exts hr) (by rw [out6_eq, hb]; rfl) hR'
  · rw [ht]
    have hA : fRight p = true → p.src.v6 = true → lbLt 65535 (liSub .i64 (fSz p) 40) = false → fBuild p = (fSix p, 0) := fun h1 h2 h3 => by simp [fBuild, h1, h2, h3]
    refine ⟨fun h => ?_, fun h => ⟨?_, ?_, fun hv' => ⟨fun hb => ?_, fun hb => ⟨?_, ?_, ?_⟩⟩, fun hv' => ⟨fun hb => ?_, fun hb => ⟨fun hc => ⟨?_, ?_⟩, fun hc => ?_⟩⟩⟩⟩
    · rw [lbNot_t] at h
      have e : fBuild p = ([], 1) := by simp [fBuild, h]
      show _ = _
      rw [e]; rfl
    · rw [lbNot_f] at h
      intro q hq
      rcases List.mem_singleton.1 hq with rfl
      exact right_head h
    · intro q hq
      rcases List.mem_singleton.1 hq with rfl
      rw [lbRoom_t]; omega
    · rw [lbNot_f] at h
      rw [lbNot_t] at hv'
      have e : fBuild p = ([], 75) := by
        have : lbLt 65535 (fSz p) = true := hb
        simp [fBuild, h, hv', this]
      show _ = _
      rw [e]; rfl
    · refine List.forall_mem_cons.2 ⟨?_, List.forall_mem_cons.2 ⟨?_, List.forall_mem_cons.2 ⟨?_, List.forall_mem_cons.2 ⟨?_, List.forall_mem_cons.2 ⟨?_, List.forall_mem_cons.2 ⟨?_, fun _ h => nomatch h⟩⟩⟩⟩⟩⟩
      all_goals simp only [lbRoom_t, lsCat, List.length_append, fPut_len]; omega
    · rw [lbNot_f] at h
      rw [lbNot_t] at hv'
      have l3 := right_opts h hv'
      refine List.forall_mem_cons.2 ⟨?_, List.forall_mem_cons.2 ⟨?_, List.forall_mem_cons.2 ⟨?_, List.forall_mem_cons.2 ⟨?_, List.forall_mem_cons.2 ⟨?_, fun _ h => nomatch h⟩⟩⟩⟩⟩
      · simp only [fSumOk, ltLit, decide_eq_true_eq, List.flatten_cons, List.flatten_nil, List.length_append, List.length_nil, fA4, fEnds, lsCat, fPut_len]; omega
      all_goals simp only [lbRoom_t, fA4, fEnds, lsCat, List.length_append, fPut_len]; omega
    · rw [lbNot_f] at h
      rw [lbNot_t] at hv'
      have e : fBuild p = (fFour p, 0) := by
        have : lbLt 65535 (fSz p) = false := hb
        simp [fBuild, h, hv', this]
      show _ = _
      rw [e]; rfl
    · rw [lbNot_f] at h hv'
      have e : fBuild p = ([], 75) := by
        have : lbLt 65535 (liSub .i64 (fSz p) 40) = true := hb
        simp [fBuild, h, hv', this]
      show _ = _
      rw [e]; rfl
    · refine List.forall_mem_cons.2 ⟨?_, List.forall_mem_cons.2 ⟨?_, List.forall_mem_cons.2 ⟨?_, List.forall_mem_cons.2 ⟨?_, fun _ h => nomatch h⟩⟩⟩⟩
      all_goals simp only [lbRoom_t, frag, lsCat, List.length_append, fPut_len]; omega
    · rw [lbNot_f] at h hv'
      exact ⟨⟨.lit 44, by unfold kind0; rw [hc]; rfl, rfl, by unfold rest0; rw [hc]; rfl⟩, h, hv', hA h hv' hb⟩
    · rw [lbNot_f] at h hv'
      exact ⟨⟨.sym p.proto, by unfold kind0; rw [hc]; rfl, rfl, by unfold rest0; rw [hc]; rfl⟩, h, hv', hA h hv' hb⟩
end Go.Adit
