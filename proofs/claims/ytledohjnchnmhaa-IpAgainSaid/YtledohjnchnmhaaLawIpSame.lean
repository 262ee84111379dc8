/- Part of the proofs of the laws: lemmas and contracts, no statement of its own. -/
import Derived.Test.YtledohjnchnmhaaAw13
import Derived.Test.YtledohjnchnmhaaOpen
set_option linter.unusedVariables false
set_option linter.unusedSimpArgs false
namespace Go.Adit
open Go.RowKit Go.Proofs
set_option maxRecDepth 100000
def c19 : List D → Option (D × List Bool)
  | [] => some (.s (.bool (.lit true)), [])
  | _ => none
def e19 : Entry := ⟨19, none, c19, noCallm, noDie⟩
theorem ok19 : EntryOK Try.prog e19 := by
  refine EntryOK.pure fun args r req hc hq => ?_
  unfold c19 at hc
  split at hc
  · simp only [Option.some.injEq, Prod.mk.injEq] at hc
    obtain ⟨rfl, rfl⟩ := hc
    exact con19.res rfl
  · cases hc
theorem fAEq_self (a : Addr) : fAEq a a = true := by simp [fAEq, lbAnd, lbEqB, lbEqI]
theorem fSame_self (p : Packet) : fSame p p = true := by simp [fSame, fEqX_self, fAEq_self, lbEqB, lbEqI, lbEqS]
theorem con10 (p q : Packet) : Con Try.prog 10 [.agg (encPkt false p), .agg (encPkt false q)] (.s (.bool (.sym true))) :=
  con_flat tryBase (es := [e19, e30, e23]) (by
    intro e he
    rcases List.mem_cons.1 he with rfl | he; exact ok19
    rcases List.mem_cons.1 he with rfl | he; exact ok30 con30
    rcases List.mem_singleton.1 he with rfl; exact ok23 con23) Try.func10 (by kernel_rfl) (by kernel_rfl) (by kernel_rfl) (by kernel_rfl) (by kernel_rfl)
  (t := (.ite (lbEqB (fSame p q) (fSame p q))
 (.ite (lbEqB (fSame q p) (fSame q p))
  (.ret (.s (.bool (.sym (fSame p p)))) [])
  (.ret (.s (.bool (.lit false))) []))
 (.ret (.s (.bool (.lit false))) []))) (by kernel_rfl) (holds_bval (by simp [Tr.bval, lbEqB, fSame_self, BV.lb]))
/-- a law's walk, out of its contract -/
theorem walk_of {k : FuncId} {args : List D} (h : Con Try.prog k args (.s (.bool (.sym true)))) {w : World} {vs : List Value} (hv : RepLs (fun _ => none) (fun _ => True) w args vs) :
    Calls Try.prog k ⟨vs⟩ w fun e w' => e = .returned (.bool true) ∧ Below w.heap.size w w' :=
  (h.2 w vs hv).mono fun _ _ ⟨u, h1, h2, h3⟩ => ⟨by rw [h1]; exact congrArg _ h2, h3⟩
end Go.Adit
