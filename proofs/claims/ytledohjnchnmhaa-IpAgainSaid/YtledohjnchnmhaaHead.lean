/- Part of the proofs of the laws: lemmas and contracts, no statement of its own. -/
import Derived.Test.YtledohjnchnmhaaPut2
set_option linter.unusedVariables false
set_option linter.unusedSimpArgs false
namespace Go.Adit
open Go.RowKit Go.Proofs
set_option maxRecDepth 100000
def addExt (n : Int) (x : Ext) : Int := liAdd .i64 n (liAdd .i64 (liLit 2) (liLen x.body))
def fHead (p : Packet) : Int :=
  if p.src.v6 then (if p.cut then liAdd .i64 (p.exts.foldl addExt 40) (liLit 8) else p.exts.foldl addExt 40)
  else liAdd .i64 (liLit 20) (liLen p.opts)
def kp54 : Nat → Option (List Nat × List Nat)
  | 0 => some ([1, 3, 15, 16, 17], [1])
  | _ => none
structure H0 (p : Packet) where
  i : Nat
  n : Int
  hi : i ≤ p.exts.length
  hv : p.src.v6 = true
  hn : (p.exts.drop i).foldl addExt n = p.exts.foldl addExt 40
def G54 (p : Packet) : Nat → Type
  | 0 => H0 p
  | _ => Empty
def T54 (p : Packet) : (i : Nat) → G54 p i → List (Nat × D) × List (Nat × Blk)
  | 0, g => let g : H0 p := g; ([(1, .s (.ptr 1 0)), (3, .s (.int .i64 (.sym g.n))), (15, .s (.exts p.exts false)), (16, .s (.int .i64 (.sym (liLenX p.exts)))), (17, .s (.int .i64 (.sym (g.i : Int))))], [(1, ⟨encPkt false p, 27⟩)])
  | _ + 1, g => nomatch g
def M54 (p : Packet) : (i : Nat) → G54 p i → Nat
  | 0, g => let g : H0 p := g; p.exts.length - g.i
  | _ + 1, g => nomatch g
def fHeadOk (p : Packet) : Bool := decide (p.exts.length ≤ 1000)
theorem con54 (p : Packet) (hok : fHeadOk p = true) : Con Try.prog 54 [.agg (encPkt false p)] (.s (.int .i64 (.sym (fHead p)))) :=
  con_given Try.func54 (by kernel_rfl) (by kernel_rfl) fun w vs hv => by
  refine con_loop tryBase (es := []) (fun _ h => nomatch h) kp54 Try.func54 (by kernel_rfl) (by kernel_rfl) (by kernel_rfl) (by kernel_rfl) (by kernel_rfl) (T54 p) (M54 p) ?_ ?_
  · have ht : symF tys eqTys zs [] Try.f54 kp54 [.agg (encPkt false p)] = (.ite (lbNot p.src.v6)
 (.ret (.s (.int .i64 (.sym (liAdd .i64 (liLit 20) (liLen p.opts))))) [])
 (.loop 0 [(1, .s (.ptr 1 0)), (3, .s (.int .i64 (.lit 40))), (15, .s (.exts p.exts false)), (16, .s (.int .i64 (.sym (liLenX p.exts)))), (17, .s (.int .i64 (.lit 0)))] [(1, ⟨encPkt false p, 27⟩)])) := by kernel_rfl
    rw [ht]
    simp only [Tr.holds, lbNot_t, lbNot_f]
    refine ⟨fun h => sI_norm ?_, fun h => ⟨(⟨0, 40, Nat.zero_le _, h, rfl⟩ : H0 p), trivial, rfl, rfl⟩⟩
    simp [fHead, h]
  · intro i g hi
    match i, g with
    | 0, g =>
      obtain ⟨i, n, hi, hv6, hn⟩ := (g : H0 p)
      have ht : symR tys eqTys zs [] Try.f54 kp54 0 [(1, .s (.ptr 1 0)), (3, .s (.int .i64 (.sym n))), (15, .s (.exts p.exts false)), (16, .s (.int .i64 (.sym (liLenX p.exts)))), (17, .s (.int .i64 (.sym (i : Int))))] [(1, ⟨encPkt false p, 27⟩)] =
        (.ite (lbLt i (liLenX p.exts))
 (.req [(lbLe (liLit 0) i), (lbLt i (liLenX p.exts))]
  (.back 0 [(1, .s (.ptr 1 0)), (3, .s (.int .i64 (.sym (liAdd .i64 n (liAdd .i64 (liLit 2) (liLen (lxBody p.exts i))))))), (15, .s (.exts p.exts false)), (16, .s (.int .i64 (.sym (liLenX p.exts)))), (17, .s (.int .i64 (.sym (liAdd .i64 i (liLit 1)))))] [(1, ⟨encPkt false p, 27⟩)]))
 (.ite p.cut
  (.ret (.s (.int .i64 (.sym (liAdd .i64 n (liLit 8))))) [])
  (.ret (.s (.int .i64 (.sym n))) []))) := by kernel_rfl
      show (symR tys eqTys zs [] Try.f54 kp54 0 [(1, .s (.ptr 1 0)), (3, .s (.int .i64 (.sym n))), (15, .s (.exts p.exts false)), (16, .s (.int .i64 (.sym (liLenX p.exts)))), (17, .s (.int .i64 (.sym (i : Int))))] [(1, ⟨encPkt false p, 27⟩)]).holds _ _ _
      rw [ht]
      simp only [fHeadOk, decide_eq_true_eq] at hok
      simp only [Tr.holds, lbLt_t, lbLt_f]
      have hl : liLenX p.exts = (p.exts.length : Int) := rfl
      refine ⟨fun h => ⟨?_, ?_⟩, fun h => ?_⟩
      · intro q hq
        simp only [List.mem_cons, List.not_mem_nil, or_false] at hq
        rcases hq with rfl | rfl
        · rw [lbLe_t]; simp only [liLit]; omega
        · rw [lbLt_t]; exact h
      · rw [hl] at h
        have hi' : i < p.exts.length := by omega
        have e3 : liAdd .i64 (i : Int) (liLit 1) = ((i + 1 : Nat) : Int) := by rw [add64 (by simp only [liLit]; omega) (by simp only [liLit]; omega)]; simp only [liLit]; omega
        rw [e3]
        refine ⟨(⟨i + 1, addExt n (p.exts.getD i ⟨0, []⟩), hi', hv6, ?_⟩ : H0 p), ?_, rfl, rfl⟩
        · rw [← hn, List.drop_eq_getElem_cons hi']
          simp only [List.foldl_cons]
          have : p.exts.getD i ⟨0, []⟩ = p.exts[i] := by simp [List.getD_eq_getElem?_getD, hi']
          rw [this]
        · simp only [M54]; omega
      · rw [hl] at h
        have hi' : i = p.exts.length := by omega
        subst hi'
        simp only [List.drop_length, List.foldl_nil] at hn
        refine ⟨fun hc => sI_norm ?_, fun hc => sI_norm ?_⟩
        · simp [fHead, hv6, hc, hn]
        · simp [fHead, hv6, hc, hn]
    | n + 1, g => exact nomatch g
end Go.Adit
