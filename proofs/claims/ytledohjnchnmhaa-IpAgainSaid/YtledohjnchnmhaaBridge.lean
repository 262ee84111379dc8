/- Part of the proofs of the laws: lemmas and contracts, no statement of its own. -/
import Derived.Test.YtledohjnchnmhaaBack1
set_option linter.unusedVariables false
set_option linter.unusedSimpArgs false
namespace Go.Adit
open Go.RowKit
section
variable {P : Program} {l n : Nat} {Q : Exit → Act → World → Prop} {ops : Array Oper}

def notDefer (o : Oper) : Bool := match o.op with | .defer _ => false | _ => true
theorem notDefer_of {o : Oper} (h : notDefer o = true) : ∀ c, o.op ≠ .defer c := by
  intro c e; simp [notDefer, e] at h

theorem upon_in {o : Oper} {a : Act} {K : Act → World → Prop} {r : Result Next} (h : o.upon P a K Q r) : o.uponIn (Fence.wide.inRound l) n P a K Q r := by
  have hd : ((Fence.wide.inRound l).depth.isSome = true → 1 ≤ n) := fun h => by simp [Fence.wide] at h
  cases r with
  | halt x w =>
    cases x <;> first | exact h | exact h.elim
  | ok x w =>
    cases x with
    | value v => exact h
    | skip => exact h
    | defer d => exact h
    | enter f args =>
      refine ⟨hd, ?_⟩
      refine CallsIn.inRound l (callsIn_wide.2 ?_)
      refine Calls.mono h ?_
      intro e w' he
      cases e <;> exact he
    | row x y =>
      refine ⟨hd, fun c cs _ => ?_⟩
      obtain ⟨v, w', h1, h2⟩ := h c cs
      exact ⟨v, w', h1, (stepsIn_wide.2 h2)⟩
    | _ => first | exact h | exact h.elim

theorem oper_in {o : Oper} (hd : notDefer o = true) {a : Act} {w : World} {K : Act → World → Prop} (h : o.wp P a w K Q) : o.wpIn (Fence.wide.inRound l) n P a w K Q := by
  refine ⟨fun _ _ => trivial, ?_⟩
  rw [Oper.semAt_eq _ _ _ (notDefer_of hd)]
  exact upon_in h

theorem op_in (hd : ∀ o ∈ ops.toList, notDefer o = true) (hQ : ¬ LetsOut Q) {i : Nat} {K K' : Act → World → Prop} (hK : ∀ a w, K a w → K' a w) {a : Act} {w : World} (h : wpOp P ops Q i K a w) : wpOpIn (Fence.wide.inRound l) n P ops Q i K' a w := by
  unfold wpOp at h
  unfold wpOpIn
  cases ho : ops[i]? with
  | none => simp only [ho] at h ⊢; exact hK _ _ h
  | some o =>
    simp only [ho] at h ⊢
    have hm : o ∈ ops.toList := by
      have := Array.mem_of_getElem? ho
      simpa using this
    split at h
    · rename_i hw
      rw [if_pos hw]
      rcases h with h | h
      · exact Oper.wpIn_mono hK (oper_in (hd o hm) h)
      · exact absurd h.2 hQ
    · rename_i hw
      rw [if_neg hw]
      exact ⟨fun _ _ => trivial, hK _ _ h⟩

theorem any_in (hd : ∀ o ∈ ops.toList, notDefer o = true) (hQ : ¬ LetsOut Q) : ∀ (m : Nat) (listed : Array Bool) (a : Act) (w : World), wpAny P .any ops Q m listed a w → wpAnyIn (Fence.wide.inRound l) n P .any ops Q m listed a w
  | 0, _, _, _, h => h
  | m + 1, listed, a, w, h => ⟨h.1, fun i hi => op_in hd hQ (any_in hd hQ m _) (h.2 i hi)⟩

theorem ops_in (hd : ∀ o ∈ ops.toList, notDefer o = true) (hQ : ¬ LetsOut Q) : ∀ (r : List Nat) (a : Act) (w : World), wpOps P ops Q r a w → wpOpsIn (Fence.wide.inRound l) n P ops Q r a w
  | [], _, _, h => h
  | i :: r, a, w, h => by
    rw [wpOps_cons] at h
    rw [wpOpsIn_cons]
    exact op_in hd hQ (ops_in hd hQ r) h

end
section
variable {P : Program} {w0 : Base} {N : Nat} {s s' : St} {β : Nat → Option Nat} {a : Act} {w : World} {c : Cfg} {z : Zs} {ops : Array Oper}
/-- a region of a round, as the run says -/
theorem region_inRound (E : Env P c z) (hN : c.n = N) {l n : Nat} {id : Nat} {draw : Bool} (hd : draw = true → drawOk c ops = true) (hnd : ops.toList.all notDefer = true) {r : List Bool}
    (hr : regRun c z ops [] ops.toList 0 s [] none = .ok s' r) (hq : ∀ b ∈ r, b = true) (hR : Rel w0 N s β a w) {Q : Exit → Act → World → Prop} (hQo : ¬ LetsOut Q) (hQ : ∀ β' a' w', Rel w0 N s' β' a' w' → Q .normal a' w') :
    (Code.region id ops draw).wpIn (Fence.wide.inRound l) n P Q a w := by
  obtain ⟨_, _, k2⟩ := regRun_ok _ _ _ _ _ _ _ hr hq (asmOK_none _ _ _ fun _ _ => rfl)
  have hnd' : ∀ o ∈ ops.toList, notDefer o = true := List.all_eq_true.1 hnd
  cases draw with
  | false =>
    refine wpIn_region (ops_in hnd' hQo _ _ _ ?_)
    rw [List.range_eq_range', ← Array.length_toList]
    exact region_text E hN ops.toList 0 s s' β a w (by simp) k2 hR hQ
  | true =>
    refine wpIn_region_any E.mixed (any_in hnd' hQo _ _ _ _ (anyS_sound (asm := []) E hN (Post := fun x => x = s') (fun x β a w e hR => by subst e; exact hQ β a w hR) _ _ s β a _ ?_ hR.drew))
    have := anyS_lex (dk := none) (Post := fun x => x = s') (zeroFlat E) comm_static ops.toList 0 (Array.replicate ops.size false) s s' hR.wf (by simp) (by simpa [drawOk] using hd rfl) k2 rfl
    simpa using this
end
end Go.Adit
