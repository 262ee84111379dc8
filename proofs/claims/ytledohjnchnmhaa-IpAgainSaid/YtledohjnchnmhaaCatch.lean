/- Part of the proofs of the laws: lemmas and contracts, no statement of its own. -/
import Derived.Defers
import Derived.ProofKit
import Derived.Recover
import Derived.Test.YtledohjnchnmhaaTryB
import Derived.WalkSmall
import Derived.WideLaws
set_option linter.unusedVariables false
set_option linter.unusedSimpArgs false
namespace Go.Adit
open Go.RowKit Go.Proofs
set_option maxRecDepth 100000
theorem thenS_gen {P : Program} {ops : Array Oper} {l : List Nat} {a : Act} {cs : List Frame} {w : World} {next : Act → List Frame → World → Prop} {Q : Exit → Act → List Frame → World → Prop} (a' : Act) (cs' : List Frame) (w' : World)
    (h : ∀ Q', Q' .normal a' cs' w' → wpOpsS P ops Q' l a cs w) (hn : next a' cs' w') : wpOpsS P ops (Exit.thenS next Q) l a cs w := h _ hn

theorem retS_gen {P : Program} {c : Code} {a : Act} {cs : List Frame} {w : World} {next : Act → List Frame → World → Prop} {Q : Exit → Act → List Frame → World → Prop} (a' : Act) (cs' : List Frame) (w' : World)
    (h : ∀ Q', Q' .ret a' cs' w' → c.wpS P Q' a cs w) (hn : Q .ret a' cs' w') : c.wpS P (Exit.thenS next Q) a cs w := h _ hn

theorem idle74 (p q : Value) (w : World) :
    CallsD Try.prog 74 #[p, q] .returning w fun e u' w' => e = .returned (.tuple #[]) ∧ u' = .returning ∧ w' = w := by
  refine callsD_of_wpS Try.func74 rfl fun c₀ cs hu => ?_
  apply wpS_seq
  apply wpS_region
  simp [wpOpsS, go_sem, recoverD, hu, Try.ntmps74, Exit.thenS]
  have hu : Try.prog.underlying 20 = some (.interface (Try.prog.methodsAt 20)) := by kernel_rfl
  apply wpS_seq
  refine retS_gen { tmps := #[p, q, .nilIface, undef, undef, .nilIface, .nilIface, .bool true] ++ Array.replicate 10 undef, defers := [] } (c₀ :: cs) w (fun Q' hQ' => ?_) ?_
  · refine wpS_of_wp ?_
    rw [show (#[p, q] ++ ((Array.replicate 16 undef).setIfInBounds 3 Value.nilIface).setIfInBounds 0 Value.nilIface : Array Value) = #[p, q, .nilIface, undef, undef, .nilIface, undef, undef, undef, undef, undef, undef, undef, undef, undef, undef, undef, undef] from rfl]
    have hn : ∀ w, (binOp .eql 20 .nilIface .nilIface).run Try.prog w = .ok (.bool true) w := fun w => run_eql_nil_nil w 20 hu
    clear hu
    go_wp2
    exact hQ'
  · cases c₀
    simp_all [bodyPostS, results, Try.results74]
end Go.Adit
