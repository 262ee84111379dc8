/- Part of the proofs of the laws: lemmas and contracts, no statement of its own. -/
import Derived.Test.YtledohjnchnmhaaB6d
set_option linter.unusedVariables false
set_option linter.unusedSimpArgs false
namespace Go.Adit
open Go.RowKit Go.Proofs Go.Shelf
set_option maxRecDepth 100000
def fSixOf (p : Packet) (s : Int × (List UInt8)) : (List UInt8) := (lsCat (lsCat (lsCat (lsCat (lsCat (fPut (liConv .u64 (liOr .i64 (liOr .i64 (liLit 1610612736) (liShl .i64 p.cls (liLit 20))) p.flow)) 4) (fPut (liConv .u64 (liSub .i64 (fSz p) (liLit 40))) 2)) (fPut (liConv .u64 s.1) 1)) (fPut (liConv .u64 p.hop) 1)) (fEnds p)) s.2)
theorem repD_si {β β' : Nat → Option Nat} {own own' : Nat → Prop} {w w' : World} {s : (List UInt8)} {k : IntKind} {n : IV} {v : Value} (h : RepD β own w (.tup [.s (.str s), .s (.int k n)]) v) : RepD β' own' w' (.tup [.s (.str s), .s (.int k n)]) v := by
  obtain ⟨vs, rfl, h⟩ := h
  match vs, h with
  | [_, _], ⟨h1, h2, _⟩ => exact ⟨_, rfl, h1, h2, trivial⟩
theorem res21 (t : Array Value) (w : World) : (results Try.f21 t).run Try.prog w = .ok (.tuple #[t.getD 2 undef, t.getD 3 undef]) w := by
  simp [results, Try.results21, go_sem]
def R21 (w : World) (r : D) : Ending → World → Prop := fun e w' => ∃ u, e = .returned u ∧ RepD (fun _ => none) (fun b => w.heap.size ≤ b) w' r u ∧ Below w.heap.size w w'

section
variable {w W : World} {p : Packet} {a : Act} {β : Nat → Option Nat} {s : Int × (List UInt8)}
theorem tail21 {r : D} (hr : (D.tup [.s (.str (fSixOf p s)), .s (.int .i64 (.lit 0))]).norm = r.norm) (hp : p.pay.length ≤ 2 ^ 40) (hR : Rel (b0 w) 158 (St.of (v21 p) (m21 p s)) β a W) (hs : s.2.length ≤ 2 ^ 42) {D : Nat} (hD : W.heap[D]? = some (.deferred (some []))) (hDl : w.heap.size ≤ D) (hbd : ∀ n b, β n = some b → b < D) :
    (spineT (bodyOf Try.f21)).wp Try.prog (bodyPostM Fence.wide 3 Try.prog Try.f21 (R21 w r)) { a with defers := [{ target := .collected D, args := #[] }] } W := by
  have hR1 : Rel ⟨W, fun k => ∃ n, β n = some k, [{ target := .collected D, args := #[] }], noPin⟩ 158 (St.of (v21 p) (m21 p s)) β { a with defers := [{ target := .collected D, args := #[] }] } W := by
    refine ⟨hR.sz, fun t d ht => ?_, fun n blk hn => ?_, hR.dom, hR.nhid, hR.inj, fun n b h => ⟨.inr ⟨n, h⟩, (hR.new n b h).2⟩, Kept.refl, rfl, fun n b _ h => (by cases h)⟩
    · obtain ⟨v, h1, h2⟩ := hR.tm t d ht
      refine ⟨v, h1, ?_⟩
      have ht : lookT (v21 p) t = some d := ht
      simp only [v21, lookT] at ht
      repeat' split at ht
      all_goals first | (cases ht; done) | (cases ht; exact RepD.bare (own := fun b => (b0 w).heap.size ≤ b) (d := .s _) rfl h2)
    · obtain ⟨b, cs, ty, h1, h2, h3, h4⟩ := hR.mem n blk hn
      refine ⟨b, cs, ty, h1, h2, h3.bare ?_, h4⟩
      have hn : lookM (m21 p s) n = some blk := hn
      simp only [m21, lookM] at hn
      repeat' split at hn
      all_goals first | (cases hn; done) | (cases hn; rfl)
  have ht : sym cfg21 zs Try.f21.results.toList 5000 [.code 0 (spineT (bodyOf Try.f21))] (St.of (v21 p) (m21 p s)) = (.req [(lbRoom (fPut (liConv .u64 (liOr .i64 (liOr .i64 (liLit 1610612736) (liShl .i64 p.cls (liLit 20))) p.flow)) 4) (fPut (liConv .u64 (liSub .i64 (fSz p) (liLit 40))) 2)), (lbRoom (lsCat (fPut (liConv .u64 (liOr .i64 (liOr .i64 (liLit 1610612736) (liShl .i64 p.cls (liLit 20))) p.flow)) 4) (fPut (liConv .u64 (liSub .i64 (fSz p) (liLit 40))) 2)) (fPut (liConv .u64 s.1) 1)), (lbRoom (lsCat (lsCat (fPut (liConv .u64 (liOr .i64 (liOr .i64 (liLit 1610612736) (liShl .i64 p.cls (liLit 20))) p.flow)) 4) (fPut (liConv .u64 (liSub .i64 (fSz p) (liLit 40))) 2)) (fPut (liConv .u64 s.1) 1)) (fPut (liConv .u64 p.hop) 1)), (lbRoom (lsCat (lsCat (lsCat (fPut (liConv .u64 (liOr .i64 (liOr .i64 (liLit 1610612736) (liShl .i64 p.cls (liLit 20))) p.flow)) 4) (fPut (liConv .u64 (liSub .i64 (fSz p) (liLit 40))) 2)) (fPut (liConv .u64 s.1) 1)) (fPut (liConv .u64 p.hop) 1)) (fEnds p)), (lbRoom (lsCat (lsCat (lsCat (lsCat (fPut (liConv .u64 (liOr .i64 (liOr .i64 (liLit 1610612736) (liShl .i64 p.cls (liLit 20))) p.flow)) 4) (fPut (liConv .u64 (liSub .i64 (fSz p) (liLit 40))) 2)) (fPut (liConv .u64 s.1) 1)) (fPut (liConv .u64 p.hop) 1)) (fEnds p)) s.2)]
 (.ret (.tup [.s (.str (lsCat (lsCat (lsCat (lsCat (lsCat (fPut (liConv .u64 (liOr .i64 (liOr .i64 (liLit 1610612736) (liShl .i64 p.cls (liLit 20))) p.flow)) 4) (fPut (liConv .u64 (liSub .i64 (fSz p) (liLit 40))) 2)) (fPut (liConv .u64 s.1) 1)) (fPut (liConv .u64 p.hop) 1)) (fEnds p)) s.2)), .s (.int .i64 (.lit 0))]) [])) := by kernel_rfl
  have lb := fBytes_len p.src
  have lb' := fBytes_len p.dst
  refine tree_wp (R := fun d _ => d = .tup [.s (.str (fSixOf p s)), .s (.int .i64 (.lit 0))]) (Rd := fun _ => False) env21 (zeroFlat env21) (body := spineT (bodyOf Try.f21)) (by kernel_rfl) rfl (rs := Try.f21.results.toList) (fun A s' β' a' W' h1 hR' => ?_) (fun n s s1 β a w w' h => h.elim)
    (γ := fun _ => Empty) (fun _ g => g.elim) (fun _ g => g.elim) 5000 ?_ (fun i g => g.elim) hR1
  · obtain ⟨v, d, l, g1, g2, g3, g4, _⟩ := finish_ok env21 hR' h1
    subst g4
    have hne : ∀ n b, β n = some b → b ≠ D := fun n b hb e => by have := hbd n b hb; omega
    have hDlt : D < W.heap.size := (Array.getElem?_eq_some_iff.1 hD).1
    have hK' : W'.heap[D]? = some (.deferred (some [])) := (hR'.bel.block D hDlt (fun ⟨n, h⟩ => hne n D h rfl)).trans hD
    rw [res21] at g1
    cases g1
    have key : LeavesInM Fence.wide 3 Try.prog Try.f21 a'.tmps (R21 w r) a'.defers .returning W' := by
      rw [show a'.defers = [{ target := .collected D, args := #[] }] from hR'.dfr]
      refine ⟨by simp, .inl ⟨D, _, rfl, run_takeDeferred hK', _, res21 _ _, _, rfl, repD_eq hr (repD_si g2), ?_⟩⟩
      refine ⟨hR'.bel.os.trans hR.bel.os, hR'.bel.tape.trans hR.bel.tape, hR'.bel.output.trans hR.bel.output, ?_, fun k hk => ?_⟩
      · have := hR'.bel.size; have := hR.bel.size; simp only [World.putObj_size]; exact Nat.le_trans hR.bel.size hR'.bel.size
      · rw [World.putObj_heap_other (by omega), hR'.bel.block k (Nat.lt_of_lt_of_le hk hR.bel.size) (fun ⟨n, h⟩ => by have := ((hR.new n k h).1).resolve_right (fun h => h); have : w.heap.size ≤ k := this; omega)]
        exact hR.bel.block k hk (fun h => h)
    exact ⟨key, key⟩
  · rw [ht]
    refine ⟨?_, rfl⟩
    refine List.forall_mem_cons.2 ⟨?_, List.forall_mem_cons.2 ⟨?_, List.forall_mem_cons.2 ⟨?_, List.forall_mem_cons.2 ⟨?_, List.forall_mem_cons.2 ⟨?_, fun _ h => nomatch h⟩⟩⟩⟩⟩
    all_goals simp only [lbRoom_t, fEnds, lsCat, List.length_append, fPut_len]; omega
end
end Go.Adit
