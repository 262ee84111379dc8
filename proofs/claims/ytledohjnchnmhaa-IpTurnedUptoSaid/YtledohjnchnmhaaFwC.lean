/- Part of the proofs of the laws: lemmas and contracts, no statement of its own. -/
import Derived.Test.YtledohjnchnmhaaFw
set_option linter.unusedVariables false
set_option linter.unusedSimpArgs false
namespace Go.Adit
open Go.RowKit

/-- each loop of the stack is where the body has it -/
def Cons (body : Code) : List K → Prop
  | [] => True
  | .code i x :: k => (∀ j r, loopAt i k x j = some r → loopAt 0 [] body j = some r) ∧ Cons body k
  | .inLoop _ b :: k => nloops b = 0 ∧ Cons body k
  | _ :: k => Cons body k

theorem loopAt_none {i j : Nat} {k : List K} {b : Code} (h : ¬ (i ≤ j ∧ j < i + nloops b)) : loopAt i k b j = none := by
  cases e : loopAt i k b j with
  | none => rfl
  | some r => exact absurd ((loopAt_isSome b i j k).1 (by rw [e]; rfl)) h

theorem loopAt_in {i j : Nat} {k : List K} {b : Code} {r : Code × List K} (h : loopAt i k b j = some r) : i ≤ j ∧ j < i + nloops b :=
  (loopAt_isSome b i j k).1 (by rw [h]; rfl)

section
variable {body : Code} {i : Nat} {k : List K} {c : Cfg}

theorem Cons.seq {x y : Code} (h : Cons body (.code i (.seq x y) :: k)) : Cons body (.code i x :: .code (i + nloops x) y :: k) := by
  refine ⟨fun j r e => h.1 j r ?_, fun j r e => h.1 j r ?_, h.2⟩
  · simp only [loopAt, e]
  · have := loopAt_in e
    simp only [loopAt, loopAt_none (b := x) (i := i) (j := j) (k := .code (i + nloops x) y :: k) (by omega), e]

theorem Cons.cond1 {q : Operand} {x y : Code} (h : Cons body (.code i (.cond q x y) :: k)) : Cons body (.code i x :: k) := by
  refine ⟨fun j r e => h.1 j r ?_, h.2⟩
  simp only [loopAt, e]

theorem Cons.cond2 {q : Operand} {x y : Code} (h : Cons body (.code i (.cond q x y) :: k)) : Cons body (.code (i + nloops x) y :: k) := by
  refine ⟨fun j r e => h.1 j r ?_, h.2⟩
  have := loopAt_in e
  simp only [loopAt, loopAt_none (b := x) (i := i) (j := j) (k := k) (by omega), e]

theorem Cons.block {id : Nat} {x : Code} (h : Cons body (.code i (.block id x) :: k)) : Cons body (.code i x :: .inBlock id :: k) :=
  ⟨fun j r e => h.1 j r (by simpa only [loopAt] using e), h.2⟩

theorem Cons.tail : ∀ {x : K}, Cons body (x :: k) → Cons body k
  | .code _ _, h | .inLoop _ _, h => h.2
  | .mark _, h | .inBlock _, h | .reg _ _ _, h => h

theorem Cons.pop : ∀ {k k' : List K} {id : Nat}, popTo id k = some k' → Cons body k → Cons body k'
  | [], _, _, h, _ => by simp [popTo] at h
  | .code _ _ :: k, k', id, h, hc | .inLoop _ _ :: k, k', id, h, hc | .mark _ :: k, k', id, h, hc | .reg _ _ _ :: k, k', id, h, hc =>
    Cons.pop (k := k) (by simpa [popTo] using h) hc.tail
  | .inBlock j :: k, k', id, h, hc => by
    simp only [popTo] at h
    split at h
    · simp only [Option.some.injEq] at h; subst h; exact hc
    · exact Cons.pop (k := k) h hc

theorem oks_pop : ∀ {k k' : List K} {id : Nat}, popTo id k = some k' → (∀ x ∈ k, x.ok c = true) → ∀ x ∈ k', x.ok c = true
  | [], _, _, h, _ => by simp [popTo] at h
  | .code _ _ :: k, k', id, h, hc | .inLoop _ _ :: k, k', id, h, hc | .mark _ :: k, k', id, h, hc | .reg _ _ _ :: k, k', id, h, hc =>
    oks_pop (k := k) (by simpa [popTo] using h) (fun x hx => hc x (.tail _ hx))
  | .inBlock j :: k, k', id, h, hc => by
    simp only [popTo] at h
    split at h
    · simp only [Option.some.injEq] at h; subst h; exact fun x hx => hc x (.tail _ hx)
    · exact oks_pop (k := k) h (fun x hx => hc x (.tail _ hx))

/-- the marks of a stack -/
def marksB (n : Nat) : List K → Prop
  | [] => True
  | .mark j :: k => j < n ∧ marksB n k
  | _ :: k => marksB n k

theorem marksB.mono {n m : Nat} (h : n ≤ m) : ∀ {k : List K}, marksB n k → marksB m k
  | [], _ => trivial
  | .mark j :: k, hk => ⟨Nat.lt_of_lt_of_le hk.1 h, marksB.mono h hk.2⟩
  | .code _ _ :: k, hk | .inLoop _ _ :: k, hk | .reg _ _ _ :: k, hk | .inBlock _ :: k, hk => marksB.mono (k := k) h hk

theorem round_at : ∀ (d : Code) (i : Nat) (k : List K) (j : Nat) (x : Code) (kk : List K), loopAt i k d j = some (x, kk) → Cons body (.code i d :: k) → regsOk c d = true → (∀ y ∈ k, y.ok c = true) → marksB i k →
    Cons body (.code (j + 1) x :: .mark j :: kk) ∧ regsOk c x = true ∧ (∀ y ∈ kk, y.ok c = true) ∧ marksB j kk := by
  intro d
  induction d with
  | seq a b iha ihb =>
    intro i k j x kk h hc hr hk hm
    simp only [loopAt] at h
    simp only [regsOk, Bool.and_eq_true] at hr
    split at h
    · rename_i r hx
      simp only [Option.some.injEq] at h
      subst h
      refine iha i _ j x kk hx hc.seq hr.1 (fun y hy => ?_) hm
      rcases List.mem_cons.1 hy with rfl | hy
      · exact hr.2
      · exact hk y hy
    · exact ihb _ _ j x kk h hc.seq.2 hr.2 hk (hm.mono (by omega))
  | cond q a b iha ihb =>
    intro i k j x kk h hc hr hk hm
    simp only [loopAt] at h
    simp only [regsOk, Bool.and_eq_true] at hr
    split at h
    · rename_i r hx
      simp only [Option.some.injEq] at h
      subst h
      exact iha i _ j x kk hx hc.cond1 hr.1 hk hm
    · exact ihb _ _ j x kk h hc.cond2 hr.2 hk (hm.mono (by omega))
  | block id a ih =>
    intro i k j x kk h hc hr hk hm
    simp only [loopAt] at h
    refine ih i _ j x kk h hc.block hr (fun y hy => ?_) hm
    rcases List.mem_cons.1 hy with rfl | hy
    · rfl
    · exact hk y hy
  | loop b ih =>
    intro i k j x kk h hc hr hk hm
    simp only [loopAt] at h
    have hc' : Cons body (.code (i + 1) b :: .mark i :: k) := by
      refine ⟨fun j' r e => hc.1 j' r ?_, hc.2⟩
      have := loopAt_in e
      simp only [loopAt, beq_false (show ¬ i = j' by omega), e]
    split at h
    · rename_i hij
      simp only [Option.some.injEq, Prod.mk.injEq] at h
      obtain ⟨rfl, rfl⟩ := h
      obtain rfl := beq_of hij
      exact ⟨hc', hr, hk, hm⟩
    · refine ih (i + 1) _ j x kk h hc' hr (fun y hy => ?_) ⟨by omega, hm.mono (by omega)⟩
      rcases List.mem_cons.1 hy with rfl | hy
      · rfl
      · exact hk y hy
  | _ => intro i k j x kk h; simp [loopAt] at h

theorem round_body {j : Nat} {x : Code} {kk : List K} (h : loopAt 0 [] body j = some (x, kk)) (hr : regsOk c body = true) :
    Cons body (.code (j + 1) x :: .mark j :: kk) ∧ regsOk c x = true ∧ (∀ y ∈ kk, y.ok c = true) ∧ marksB j kk :=
  round_at body 0 [] j x kk h ⟨fun _ _ e => e, trivial⟩ hr (fun _ h => nomatch h) trivial
end

section
variable {P : Program} {w0 : Base} {N : Nat} {s s' : St} {β : Nat → Option Nat} {a : Act} {w : World} {c : Cfg} {z : Zs} {Qf : Exit → Act → World → Prop} {BK BK' : Nat → Act → World → Prop}

theorem kwp_marks {n : Nat} (hB : ∀ j, j < n → BK j = BK' j) : ∀ (k : List K), marksB n k → kwp P Qf BK k = kwp P Qf BK' k
  | [], _ => by funext e a w; simp only [kwp]
  | .mark j :: k, hk => by
    have ih := kwp_marks hB k hk.2
    funext e a w
    cases e <;> simp only [kwp, ih, hB j hk.1]
  | .code _ _ :: k, hk | .inLoop _ _ :: k, hk | .reg _ _ _ :: k, hk | .inBlock _ :: k, hk => by
    have ih := kwp_marks hB k hk
    funext e a w
    cases e <;> simp only [kwp, ih]

theorem RepD.restrict {own : Nat → Prop} {β' : Nat → Option Nat} {ok : Nat → Bool} (h1 : ∀ n b, β' n = some b → β n = some b) (h2 : ∀ n, ok n = true → β' n = β n) {d : D} (hd : d.named ok = true) {v : Value} (h : RepD β own w d v) : RepD β' own w d v := by
  cases d with
  | s x => exact RepS.restrict h1 (fun n hn => h2 n (by simpa [D.named] using (List.all_eq_true.1 hd) n hn)) h
  | agg l =>
    obtain ⟨cs, e1, e2⟩ := h
    exact ⟨cs, e1, e2.restrict h1 fun x hx n hn => h2 n (List.all_eq_true.1 (List.all_eq_true.1 hd x hx) n hn)⟩
  | tup l =>
    cases l with
    | nil => obtain ⟨vs, e1, e2⟩ := h; exact ⟨vs, e1, by cases vs with | nil => trivial | cons => exact e2.elim⟩
    | cons => simp [D.named] at hd

theorem viewT_look {bs : List Nat} : ∀ {ts : List Nat} {v : List (Nat × D)}, viewT s bs ts = some v → ∀ t d, lookT v t = some d → s.t t = some d ∧ d.named (memN bs) = true
  | [], v, h, t, d, hd => by simp only [viewT, Option.some.injEq] at h; subst h; simp [lookT] at hd
  | u :: ts, v, h, t, d, hd => by
    simp only [viewT] at h
    split at h
    · rename_i d' l h1 h2
      split at h
      · rename_i hn
        simp only [Option.some.injEq] at h
        subst h
        simp only [lookT] at hd
        split at hd
        · rename_i hu
          obtain rfl := beq_of hu
          simp only [Option.some.injEq] at hd
          subst hd
          exact ⟨h1, hn⟩
        · exact viewT_look h2 t d hd
      · cases h
    · cases h

theorem viewM_look : ∀ {ts : List Nat} {v : List (Nat × Blk)}, viewM s ts = some v → ∀ t, (∀ d, lookM v t = some d → s.m t = some d ∧ memN ts t = true) ∧ (lookM v t = none → memN ts t = false)
  | [], v, h, t => by simp only [viewM, Option.some.injEq] at h; subst h; simp [lookM, memN]
  | u :: ts, v, h, t => by
    simp only [viewM] at h
    split at h
    · rename_i d' l h1 h2
      simp only [Option.some.injEq] at h
      subst h
      have ih := viewM_look h2 t
      simp only [lookM, memN]
      by_cases e : t = u
      · subst e
        simp [h1]
      · rw [beq_false e, beq_false (fun x => e x.symm)]
        exact ih
    · cases h

theorem Rel.view (h : Rel w0 N s β a w) {q : List Nat × List Nat} {v : List (Nat × D)} {m : List (Nat × Blk)} (hv : viewT s q.2 q.1 = some v) (hm : viewM s q.2 = some m) :
    Rel w0 N (St.of v m) (fun n => if memN q.2 n then β n else none) a w := by
  have h1 : ∀ n b, (fun n => if memN q.2 n then β n else none) n = some b → β n = some b := by
    intro n b e; simp only at e; split at e
    · exact e
    · cases e
  have h2 : ∀ n, memN q.2 n = true → (fun n => if memN q.2 n then β n else none) n = β n := by intro n e; simp only [if_pos e]
  refine ⟨h.sz, fun t d hd => ?_, fun n blk hn => ?_, fun n hn => ?_, fun n n' b e e' => h.inj n n' b (h1 _ _ e) (h1 _ _ e'), fun n b e => h.new n b (h1 _ _ e), h.bel, h.dfr, fun n b hn hb b' h' => h.lnt n b hn hb b' (h1 _ _ h')⟩
  · obtain ⟨g1, g2⟩ := viewT_look hv t d hd
    obtain ⟨u, e1, e2⟩ := h.tm t d g1
    exact ⟨u, e1, e2.restrict h1 h2 g2⟩
  · obtain ⟨g1, g2⟩ := (viewM_look hm n).1 blk hn
    obtain ⟨b, cs, ty, e1, e2, e3, e4⟩ := h.mem n blk g1
    refine ⟨b, cs, ty, by rw [← e1]; exact h2 n g2, e2, e3.restrict h1 fun x hx k hk => ?_, e4⟩
    have hf := List.all_eq_true.1 e4 x hx
    have : x.names = [] := by cases x <;> simp_all [SC.flat, SC.names]
    rw [this] at hk
    cases hk
  · have := (viewM_look hm n).2 hn
    simp only [this]
    rfl

theorem Rel.ofView (h : Rel w0 N s β a w) {q : List Nat × List Nat} {R : D → List SC → Prop} {Rd : Int → Prop} {A : Nat → List (Nat × D) → List (Nat × Blk) → Prop} {f : List (Nat × D) → List (Nat × Blk) → Tr} (hv : (Adit.view s q f).holds R Rd A) :
    ∃ v m β', (f v m).holds R Rd A ∧ Rel w0 N (St.of v m) β' a w := by
  unfold Adit.view at hv
  split at hv
  · rename_i v m h1 h2
    exact ⟨v, m, _, hv, h.view h1 h2⟩
  · exact hv.elim

/-- the answers of a function as one value -/
def outD : List D → D
  | [d] => d
  | l => .tup l

def oneRes (tmps : Array Value) : ResultVar → Sem Value
  | .tmp t => pure (tmps.getD t undef)
  | .cell a t => do loadVar t (← asAddr (tmps.getD a undef))

theorem results_eq (fn : Func) (tmps : Array Value) : results fn tmps = (do
    let vs ← fn.results.mapM (oneRes tmps)
    pure (if h : vs.size = 1 then vs[0] else .tuple vs)) := by
  unfold results
  congr 1

theorem run_results (E : Env P c z) {fn : Func} (hR : Rel w0 N s β a w) {ds : List D} (h : ressOf c s fn.results.toList = some ds) :
    ∃ v, (results fn a.tmps).run P w = .ok v w ∧ RepD β (fun b => w0.heap.size ≤ b) w (outD ds) v ∧ ∀ d ∈ ds, d.clean = true := by
  have one : ∀ (x : ResultVar) (d : D), resOf c s x = some d → ∃ v, (oneRes a.tmps x).run P w = .ok v w ∧
      Rep1 β (fun b => w0.heap.size ≤ b) w d v ∧ d.clean = true := by
    have rep1 : ∀ {d : D} {v : Value}, d.clean = true → RepD β (fun b => w0.heap.size ≤ b) w d v → Rep1 β (fun b => w0.heap.size ≤ b) w d v := by
      intro d v hc hv
      cases d with
      | s x => exact hv
      | agg l => exact hv
      | tup l => simp [D.clean] at hc
    intro x d hx
    cases x with
    | tmp t =>
      simp only [resOf, Option.bind_eq_some_iff] at hx
      obtain ⟨d', h1, h2⟩ := hx
      split at h2
      · rename_i hc
        simp only [Option.some.injEq] at h2
        subst h2
        obtain ⟨v, g1, g2⟩ := hR.tm t d' h1
        refine ⟨v, ?_, rep1 hc g2, hc⟩
        simp only [oneRes, Array.getD_eq_getD_getElem?, g1]
        rfl
      · cases h2
    | cell y t =>
      simp only [resOf] at hx
      split at hx
      · rename_i n off hy
        split at hx
        · rename_i b hb
          split at hx
          · rename_i hk
            simp only [Option.bind_eq_some_iff] at hx
            obtain ⟨d', h1, h2⟩ := hx
            split at h2
            · rename_i hc
              simp only [Option.some.injEq] at h2
              subst h2
              obtain ⟨v, g1, bb, g2, g3⟩ := hR.tm y _ hy
              obtain ⟨b', cs, ty, k1, k2, k3, _⟩ := hR.mem n b hb
              obtain rfl : bb = b' := by rw [g2] at k1; exact Option.some.inj k1
              obtain ⟨u, m1, m2⟩ := run_loadVar E hk k3 k2 h1
              refine ⟨u, ?_, rep1 hc m2, hc⟩
              subst g3
              simp only [oneRes, Array.getD_eq_getD_getElem?, g1]
              simp [asAddr, m1]
            · cases h2
          · cases hx
        · cases hx
      · cases hx
  have all : ∀ (l : List ResultVar) (ds : List D), ressOf c s l = some ds → ∃ vs, (l.mapM (oneRes a.tmps)).run P w = .ok vs w ∧
      RepLs β (fun b => w0.heap.size ≤ b) w ds vs ∧ ∀ d ∈ ds, d.clean = true := by
    intro l
    induction l with
    | nil => intro ds hds; simp only [ressOf, Option.some.injEq] at hds; subst hds; exact ⟨[], by simp, trivial, by simp⟩
    | cons x l ih =>
      intro ds hds
      simp only [ressOf] at hds
      split at hds
      · rename_i d ds' h1 h2
        simp only [Option.some.injEq] at hds
        subst hds
        obtain ⟨v, g1, g2, g3⟩ := one x d h1
        obtain ⟨vs, k1, k2, k3⟩ := ih ds' h2
        refine ⟨v :: vs, ?_, ⟨g2, k2⟩, ?_⟩
        · simp [List.mapM_cons, g1, k1]
        · intro d' hd'
          rcases List.mem_cons.1 hd' with rfl | hd'
          · exact g3
          · exact k3 d' hd'
      · cases hds
  obtain ⟨vs, g1, g2, g3⟩ := all _ _ h
  refine ⟨if h : vs.toArray.size = 1 then vs.toArray[0] else .tuple vs.toArray, ?_, ?_, g3⟩
  · rw [results_eq, show fn.results = fn.results.toList.toArray from rfl, List.mapM_toArray]
    simp only [map_eq_pure_bind, bind_assoc, pure_bind]
    simp [g1]
  · cases ds with
    | nil => cases vs with
      | nil => exact ⟨[], rfl, trivial⟩
      | cons => exact g2.elim
    | cons d ds => cases ds with
      | nil => cases vs with
        | nil => exact g2.elim
        | cons v vs => cases vs with
          | nil =>
            have := g3 d (.head _)
            cases d with
            | s x => exact g2.1
            | agg l => exact g2.1
            | tup l => simp [D.clean] at this
          | cons => exact g2.2.elim
      | cons d' ds => cases vs with
        | nil => exact g2.elim
        | cons v vs => cases vs with
          | nil => exact g2.2.elim
          | cons v' vs => exact ⟨v :: v' :: vs, by simp, g2⟩

theorem finish_ok (E : Env P c z) {fn : Func} (hR : Rel w0 N s β a w) {R : D → List SC → Prop} {Rd : Int → Prop} {A : Nat → List (Nat × D) → List (Nat × Blk) → Prop} (h : (finish c fn.results.toList s).holds R Rd A) :
    ∃ v d l, (results fn a.tmps).run P w = .ok v w ∧ RepD β (fun b => w0.heap.size ≤ b) w d v ∧ d.cleanT = true ∧ R d l ∧ l.all SC.clean = true ∧
      ((s.m lentName = none ∧ l = []) ∨ ∃ b, s.m lentName = some b ∧ l = b.cells) := by
  have lb : ∀ d, (match s.m lentName with | none => Tr.ret d [] | some b => if b.cells.all SC.clean then .ret d b.cells else .fail 10).holds R Rd A → ∃ l, R d l ∧ l.all SC.clean = true ∧ ((s.m lentName = none ∧ l = []) ∨ ∃ b, s.m lentName = some b ∧ l = b.cells) := by
    intro d h
    split at h
    · rename_i hm; exact ⟨[], h, rfl, .inl ⟨hm, rfl⟩⟩
    · rename_i b hm
      split at h
      · rename_i hc; exact ⟨b.cells, h, hc, .inr ⟨b, hm, rfl⟩⟩
      · exact h.elim
  unfold finish at h
  split at h
  · rename_i d hd
    obtain ⟨v, g1, g2, g3⟩ := run_results E hR hd
    obtain ⟨l, k1, k2, k3⟩ := lb d h
    refine ⟨v, d, l, g1, g2, ?_, k1, k2, k3⟩
    have := g3 d (.head _)
    cases d with
    | tup l => simp [D.clean] at this
    | s x => exact this
    | agg l => exact this
  · rename_i l hne hl
    obtain ⟨v, g1, g2, g3⟩ := run_results E hR hl
    obtain ⟨l', k1, k2, k3⟩ := lb (.tup l) h
    refine ⟨v, .tup l, l', g1, ?_, by simpa [D.cleanT] using g3, k1, k2, k3⟩
    unfold outD at g2
    split at g2
    · rename_i d; exact absurd rfl (hne d)
    · exact g2
  · exact h.elim
end
end Go.Adit

namespace Go.Adit
open Go.RowKit

def noReg : List K → Bool
  | [] => true
  | .reg _ _ _ :: _ => false
  | _ :: k => noReg k

theorem noReg_pop : ∀ {k k' : List K} {id : Nat}, popTo id k = some k' → noReg k = true → noReg k' = true
  | [], _, _, h, _ => by simp [popTo] at h
  | .reg _ _ _ :: k, k', id, h, hc => by simp [noReg] at hc
  | .code _ _ :: k, k', id, h, hc | .inLoop _ _ :: k, k', id, h, hc | .mark _ :: k, k', id, h, hc =>
    noReg_pop (k := k) (by simpa [popTo] using h) hc
  | .inBlock j :: k, k', id, h, hc => by
    simp only [popTo] at h
    split at h
    · simp only [Option.some.injEq] at h; subst h; exact hc
    · exact noReg_pop (k := k) h hc

theorem marksB_pop {n : Nat} : ∀ {k k' : List K} {id : Nat}, popTo id k = some k' → marksB n k → marksB n k'
  | [], _, _, h, _ => by simp [popTo] at h
  | .mark _ :: k, k', id, h, hc => marksB_pop (k := k) (by simpa [popTo] using h) hc.2
  | .reg _ _ _ :: k, k', id, h, hc | .code _ _ :: k, k', id, h, hc | .inLoop _ _ :: k, k', id, h, hc =>
    marksB_pop (k := k) (by simpa [popTo] using h) hc
  | .inBlock j :: k, k', id, h, hc => by
    simp only [popTo] at h
    split at h
    · simp only [Option.some.injEq] at h; subst h; exact hc
    · exact marksB_pop (k := k) h hc

theorem marksB.tail {n : Nat} : ∀ {x : K} {k : List K}, marksB n (x :: k) → marksB n k
  | .mark _, _, h => h.2
  | .reg _ _ _, _, h | .code _ _, _, h | .inLoop _ _, _, h | .inBlock _, _, h => h

section
variable {P : Program} {w0 : Base} {N : Nat} {c : Cfg} {z : Zs} {Qf : Exit → Act → World → Prop} {BK : Nat → Act → World → Prop} {body : Code} {rs : List ResultVar} {R : D → List SC → Prop} {Rd : Int → Prop} {A : Nat → List (Nat × D) → List (Nat × Blk) → Prop}

theorem sym_sound (E : Env P c z) (hz : ZeroFlat c z) (hN : c.n = N)
    (hQ : ∀ s β a w, (finish c rs s).holds R Rd A → Rel w0 N s β a w → Qf .ret a w ∧ Qf .normal a w)
    (hD : ∀ n s s1 β a w w', Rd n → c.hold s = true → Grow c s s1 → Rel w0 N s1 β a w → Left w0 N c s1 β a w' → Qf (.panic (errChain n)) a w')
    (hL : ∀ i v m β a w x k, A i v m → loopAt 0 [] body i = some (x, k) → Rel w0 N (St.of v m) β a w → (Code.loop x).wp P (kwp P Qf BK k) a w)
    (hB : ∀ i v m β a w, i < nloops body → A i v m → Rel w0 N (St.of v m) β a w → BK i a w) :
    ∀ n, (∀ k s β a w, noReg k = true → marksB (nloops body) k → Cons body k → (∀ x ∈ k, x.ok c = true) → (sym c z rs n k s).holds R Rd A → Rel w0 N s β a w → kwp P Qf BK k .normal a w) ∧
      (∀ ops d asm k s β a w, noReg k = true → marksB (nloops body) k → Cons body k → (∀ x ∈ k, x.ok c = true) → (d = true → drawOk c ops = true) → AsmOK c z ops asm ops.toList 0 s →
        (sym c z rs n (.reg ops d asm :: k) s).holds R Rd A → Rel w0 N s β a w → ∀ id, (Code.region id ops d).wp P (kwp P Qf BK k) a w) := by
  intro n
  induction n with
  | zero => exact ⟨fun k s β a w _ _ _ _ h => by simp [sym, Tr.holds] at h, fun ops d asm k s β a w _ _ _ _ _ _ h => by simp [sym, Tr.holds] at h⟩
  | succ n ih =>
    obtain ⟨ih1, ih2⟩ := ih
    refine ⟨fun k s β a w hn hm hc hk h hR => ?_, fun ops d asm k s β a w hn hm hc hk hd ha h hR id => ?_⟩
    · cases k with
      | nil =>
        simp only [sym] at h
        simp only [kwp]
        exact (hQ s β a w h hR).2
      | cons x k =>
        have hk' : ∀ x ∈ k, x.ok c = true := fun y hy => hk y (.tail _ hy)
        have hx := hk x (.head _)
        cases x with
        | reg ops d asm => simp [noReg] at hn
        | inBlock id =>
          simp only [sym] at h
          simp only [kwp]
          exact ih1 k s β a w hn hm.tail hc.tail hk' h hR
        | mark i =>
          simp only [sym] at h
          simp only [kwp]
          split at h
          · exact h.elim
          · obtain ⟨v, m, β', h', hR'⟩ := hR.ofView h
            exact hB i _ _ β' a w hm.1 h' hR'
        | inLoop i b =>
          simp only [sym] at h
          simp only [kwp]
          have hb : nloops b = 0 := hc.1
          have := ih1 (.code (i + 1) b :: .inLoop i b :: k) s β a w hn hm ⟨fun j r e => (by rw [loopAt_none (by omega)] at e; cases e), hc⟩ (fun y hy => by
            rcases List.mem_cons.1 hy with rfl | hy
            · exact hx
            · exact hk y hy) h hR
          simp only [kwp] at this
          exact iwp_loop (wp_mono this then_loop)
        | code i x =>
          have hn' : noReg k = true := hn
          have hm' : marksB (nloops body) k := hm
          simp only [kwp]
          cases x with
          | skip =>
            simp only [sym] at h
            exact wp_skip (ih1 k s β a w hn' hm' hc.tail hk' h hR)
          | seq p q =>
            simp only [sym] at h
            simp only [K.ok, regsOk, Bool.and_eq_true] at hx
            have := ih1 _ s β a w (by simpa [noReg] using hn') (by simpa [marksB] using hm') hc.seq (fun y hy => by
              rcases List.mem_cons.1 hy with rfl | hy
              · exact hx.1
              rcases List.mem_cons.1 hy with rfl | hy
              · exact hx.2
              · exact hk' y hy) h hR
            simp only [kwp] at this
            exact wp_seq (wp_mono this then_code)
          | block id b =>
            simp only [sym] at h
            have := ih1 _ s β a w (by simpa [noReg] using hn') (by simpa [marksB] using hm') hc.block (fun y hy => by
              rcases List.mem_cons.1 hy with rfl | hy
              · exact hx
              rcases List.mem_cons.1 hy with rfl | hy
              · rfl
              · exact hk' y hy) h hR
            simp only [kwp] at this
            exact wp_block (wp_mono this then_block)
          | exit id =>
            simp only [sym] at h
            split at h
            · rename_i k' hp
              exact wp_exit (kwp_pop hp (ih1 k' s β a w (noReg_pop hp hn') (marksB_pop hp hm') (hc.tail.pop hp) (oks_pop hp hk') h hR))
            · exact h.elim
          | ret =>
            simp only [sym] at h
            exact wp_ret (by rw [kwp_ret]; exact (hQ s β a w h hR).1)
          | cond q p r =>
            simp only [sym] at h
            simp only [K.ok, regsOk, Bool.and_eq_true] at hx
            have h1 : (sym c z rs n (.code i p :: k) s).holds R Rd A → p.wp P (kwp P Qf BK k) a w := fun h => by
              have := ih1 _ s β a w (by simpa [noReg] using hn') (by simpa [marksB] using hm') hc.cond1 (fun y hy => by
                rcases List.mem_cons.1 hy with rfl | hy
                · exact hx.1
                · exact hk' y hy) h hR
              simpa only [kwp] using this
            have h2 : (sym c z rs n (.code (i + nloops p) r :: k) s).holds R Rd A → r.wp P (kwp P Qf BK k) a w := fun h => by
              have := ih1 _ s β a w (by simpa [noReg] using hn') (by simpa [marksB] using hm') hc.cond2 (fun y hy => by
                rcases List.mem_cons.1 hy with rfl | hy
                · exact hx.2
                · exact hk' y hy) h hR
              simpa only [kwp] using this
            split at h
            · rename_i hq
              exact wp_cond_true (ev_rep hR hq) (h1 h)
            · rename_i hq
              exact wp_cond_false (ev_rep hR hq) (h2 h)
            · rename_i b hq
              simp only [Tr.holds] at h
              exact wp_cond_split (ev_rep hR hq) (fun hb => h1 (h.1 hb)) (fun hb => h2 (h.2 hb))
            · exact h.elim
          | loop b =>
            simp only [sym] at h
            split at h
            · split at h
              · rename_i hb
                have := ih1 (.code (i + 1) b :: .inLoop i b :: k) s β a w (by simpa [noReg] using hn') (by simpa [marksB] using hm') ⟨fun j r e => (by rw [loopAt_none (by omega)] at e; cases e), hb, hc.tail⟩ (fun y hy => by
                  rcases List.mem_cons.1 hy with rfl | hy
                  · exact hx
                  rcases List.mem_cons.1 hy with rfl | hy
                  · exact hx
                  · exact hk' y hy) h hR
                simp only [kwp] at this
                exact wp_loop_iwp (wp_mono this then_loop)
              · exact h.elim
            · obtain ⟨v, m, β', h', hR'⟩ := hR.ofView h
              exact hL i _ _ β' a w b k h' (hc.1 i (b, k) (by simp [loopAt])) hR'
          | region id ops d =>
            simp only [sym] at h
            exact ih2 ops d [] k s β a w hn' hm' hc.tail hk' (fun hd => by subst hd; simpa [K.ok, regsOk] using hx) (asmOK_none _ _ _ fun _ _ => rfl) h hR id
          | _ => simp [sym, Tr.holds] at h
    · simp only [sym] at h
      split at h
      · rename_i s' hr
        obtain ⟨_, _, k2⟩ := regRun_ok _ _ _ _ _ _ _ hr (fun _ h => nomatch h) ha
        exact region_sound E hz hN hd k2 hR fun β' a' w' hR' => ih1 k s' β' a' w' hn hm hc hk h hR'
      · rename_i s' r hne hr
        simp only [Tr.holds] at h
        obtain ⟨_, _, k2⟩ := regRun_ok _ _ _ _ _ _ _ hr h.1 ha
        exact region_sound E hz hN hd k2 hR fun β' a' w' hR' => ih1 k s' β' a' w' hn hm hc hk h.2 hR'
      · rename_i e s' r hr
        split at h
        · rename_i hh
          simp only [Tr.holds] at h
          obtain ⟨_, kk, _, hkk, k2⟩ := regRun_dead _ _ _ _ _ _ _ hr h.1 ha
          exact region_dead E hz hN hd (by simpa using hkk) k2 hR fun s1 β' a' w1 w' hg hR' hl => by
            rw [kwp_panic]; exact hD e s s1 β' a' w1 w' h.2 hh hg hR' hl
        · exact h.elim
      · rename_i j b hr
        split at h
        · rename_i hj
          simp only [Tr.holds] at h
          cases hb : b with
          | true => exact ih2 ops d ((j, true) :: asm) k s β a w hn hm hc hk hd (hb ▸ asmOK_cons hj _ _ _ _ _ hr ha) (h.1 hb) hR id
          | false => exact ih2 ops d ((j, false) :: asm) k s β a w hn hm hc hk hd (hb ▸ asmOK_cons hj _ _ _ _ _ hr ha) (h.2 hb) hR id
        · exact h.elim
      · exact h.elim
end
end Go.Adit

namespace Go.Adit
open Go.RowKit

def SC.norm : SC → SC
  | .bool b => .bool (.sym b.lb)
  | .int k n => .int k (.sym n.li)
  | .byte y => .int .u8 (.sym (y.toNat : Int))
  | x => x
def D.norm1 : D → D
  | .s x => .s x.norm
  | .agg l => .agg (l.map SC.norm)
  | .tup l => .tup l
def D.norm : D → D
  | .tup l => .tup (l.map D.norm1)
  | d => d.norm1
def Blk.norm (b : Blk) : Blk := ⟨b.cells.map SC.norm, 0⟩

def normT (v : List (Nat × D)) : List (Nat × D) := v.map fun x => (x.1, x.2.norm)
def normM (v : List (Nat × Blk)) : List (Nat × Blk) := v.map fun x => (x.1, x.2.norm)

section
variable {P : Program} {w0 : Base} {N : Nat} {s s' : St} {β : Nat → Option Nat} {a : Act} {w : World} {c : Cfg} {z : Zs} {Qf : Exit → Act → World → Prop} {own : Nat → Prop}

theorem repS_norm {x : SC} {v : Value} : RepS β own w x.norm v ↔ RepS β own w x v := by
  cases x with
  | byte y =>
    simp only [SC.norm, RepS, IV.li]
    refine ⟨fun h => h.1, fun h => ⟨h, ?_⟩⟩
    have := y.toNat_lt
    unfold inR
    have h1 : IntKind.min .u8 = 0 := rfl
    have h2 : IntKind.max .u8 = 255 := rfl
    rw [h1, h2]
    omega
  | bool b => cases b <;> simp [SC.norm, RepS, BV.lb]
  | int k n => cases n <;> simp [SC.norm, RepS, IV.li]
  | _ => exact Iff.rfl

theorem repL_norm : ∀ {l : List SC} {vs : List Value}, RepL β own w (l.map SC.norm) vs ↔ RepL β own w l vs
  | [], [] => Iff.rfl
  | x :: l, v :: vs => by simp only [List.map_cons, RepL, repS_norm, repL_norm (l := l)]
  | [], _ :: _ => Iff.rfl
  | _ :: _, [] => Iff.rfl

theorem rep1_norm {d : D} {v : Value} : Rep1 β own w d.norm1 v ↔ Rep1 β own w d v := by
  cases d with
  | s x => exact repS_norm
  | agg l => simp only [D.norm1, Rep1, repL_norm]
  | tup l => exact Iff.rfl

theorem repLs_norm : ∀ {l : List D} {vs : List Value}, RepLs β own w (l.map D.norm1) vs ↔ RepLs β own w l vs
  | [], [] => Iff.rfl
  | x :: l, v :: vs => by simp only [List.map_cons, RepLs, rep1_norm, repLs_norm (l := l)]
  | [], _ :: _ => Iff.rfl
  | _ :: _, [] => Iff.rfl

theorem repD_norm {d : D} {v : Value} : RepD β own w d.norm v ↔ RepD β own w d v := by
  cases d with
  | s x => exact rep1_norm (d := .s x)
  | agg l => exact rep1_norm (d := .agg l)
  | tup l => simp only [D.norm, RepD, repLs_norm]

theorem repD_eq {d r : D} (h : d.norm = r.norm) {v : Value} (hv : RepD β own w d v) : RepD β own w r v := repD_norm.1 (h ▸ repD_norm.2 hv)

theorem flat_norm {x : SC} : x.norm.flat = x.flat := by cases x <;> rfl
theorem flats_norm {l : List SC} : flats (l.map SC.norm) = flats l := by
  induction l with
  | nil => rfl
  | cons x l ih => simp only [flats, List.map_cons, List.all_cons, flat_norm] at ih ⊢; rw [ih]

theorem lookT_norm : ∀ {v : List (Nat × D)} {t : Nat}, lookT (normT v) t = (lookT v t).map D.norm
  | [], t => rfl
  | (u, x) :: v, t => by
    have ih := lookT_norm (v := v) (t := t)
    simp only [normT, List.map_cons, lookT] at ih ⊢
    cases h : Nat.beq t u with
    | true => rfl
    | false => exact ih

theorem lookM_norm : ∀ {v : List (Nat × Blk)} {t : Nat}, lookM (normM v) t = (lookM v t).map Blk.norm
  | [], t => rfl
  | (u, x) :: v, t => by
    have ih := lookM_norm (v := v) (t := t)
    simp only [normM, List.map_cons, lookM] at ih ⊢
    cases h : Nat.beq t u with
    | true => rfl
    | false => exact ih

theorem Rel.norm {v v' : List (Nat × D)} {m m' : List (Nat × Blk)} (h : Rel w0 N (St.of v m) β a w) (hv : normT v = normT v') (hm : normM m = normM m') : Rel w0 N (St.of v' m') β a w := by
  refine ⟨h.sz, fun t d hd => ?_, fun n blk hn => ?_, fun n hn => ?_, h.inj, h.new, h.bel, h.dfr, h.lnt⟩
  · have h1 : (lookT v t).map D.norm = some d.norm := by
      have hd' : lookT v' t = some d := hd
      rw [← lookT_norm, hv, lookT_norm, hd']; rfl
    obtain ⟨d', e1, e2⟩ := Option.map_eq_some_iff.1 h1
    obtain ⟨u, g1, g2⟩ := h.tm t d' e1
    exact ⟨u, g1, repD_eq e2 g2⟩
  · have h1 : (lookM m n).map Blk.norm = some blk.norm := by
      have hd' : lookM m' n = some blk := hn
      rw [← lookM_norm, hm, lookM_norm, hd']; rfl
    obtain ⟨b', e1, e2⟩ := Option.map_eq_some_iff.1 h1
    obtain ⟨b, cs, ty, g1, g2, g3, g4⟩ := h.mem n b' e1
    have e3 : b'.cells.map SC.norm = blk.cells.map SC.norm := congrArg Blk.cells e2
    exact ⟨b, cs, ty, g1, g2, repL_norm.1 (e3 ▸ repL_norm.2 g3), by rw [← flats_norm, ← e3, flats_norm]; exact g4⟩
  · refine h.dom n ?_
    have hd' : lookM m' n = none := hn
    have h1 : (lookM m n).map Blk.norm = none := by rw [← lookM_norm, hm, lookM_norm, hd']; rfl
    cases e : lookM m n with
    | none => exact e
    | some x => rw [e] at h1; cases h1

/-- at a mark, a round of the loop is due -/
def bkc (P : Program) (Qf : Exit → Act → World → Prop) (body : Code) : Nat → Nat → Act → World → Prop
  | 0, _ => fun _ _ => False
  | n + 1, i => if i = n then fun a w => match loopAt 0 [] body n with
      | some (x, k) => iwp P (.inLoop x) (kwp P Qf (bkc P Qf body n) k) a w
      | none => False
    else bkc P Qf body n i

theorem bkc_of {body : Code} {i : Nat} {x : Code} {k : List K} (h : loopAt 0 [] body i = some (x, k)) : ∀ n, i < n → bkc P Qf body n i = iwp P (.inLoop x) (kwp P Qf (bkc P Qf body i) k)
  | 0, h0 => by omega
  | n + 1, h0 => by
    unfold bkc
    by_cases e : i = n
    · subst e; rw [if_pos rfl]; funext a w; simp only [h]
    · rw [if_neg e]; exact bkc_of h n (by omega)

theorem bkc_low {body : Code} {j i : Nat} (h : j < i) : ∀ n, i ≤ n → bkc P Qf body n j = bkc P Qf body i j
  | 0, h0 => by omega
  | n + 1, h0 => by
    by_cases e : i = n + 1
    · rw [e]
    · rw [← bkc_low h n (by omega)]
      conv => lhs; unfold bkc
      rw [if_neg (by omega)]

/-- a stop at the head of a loop -/
def Arr {γ : Nat → Type} (T : (i : Nat) → γ i → List (Nat × D) × List (Nat × Blk)) (p : (i : Nat) → γ i → Prop) (i : Nat) (v : List (Nat × D)) (m : List (Nat × Blk)) : Prop :=
  ∃ g, p i g ∧ normT v = normT (T i g).1 ∧ normM m = normM (T i g).2

def SC.bare : SC → Bool
  | .exts _ o => !o
  | _ => true
def D.bare : D → Bool
  | .s x => x.bare
  | .agg l => l.all SC.bare
  | .tup _ => false

theorem RepS.bare {own' : Nat → Prop} {x : SC} (hx : x.bare = true) {v : Value} (h : RepS β own w x v) : RepS β own' w x v := by
  cases x with
  | exts l o =>
    obtain ⟨a, cap, e1, e2, e3⟩ := h
    refine ⟨a, cap, e1, e2, e3.imp id ?_⟩
    rintro ⟨b, off, f1, f2, ⟨f3, f4⟩, f5⟩
    exact ⟨b, off, f1, f2, ⟨f3, fun e => by subst e; simp [SC.bare] at hx⟩, f5⟩
  | _ => exact h

theorem RepL.bare {own' : Nat → Prop} : ∀ {l : List SC} {vs : List Value}, l.all SC.bare = true → RepL β own w l vs → RepL β own' w l vs
  | [], [], _, _ => trivial
  | x :: l, v :: vs, hl, h => by
    simp only [List.all_cons, Bool.and_eq_true] at hl
    exact ⟨h.1.bare hl.1, RepL.bare hl.2 h.2⟩
  | [], _ :: _, _, h => h.elim
  | _ :: _, [], _, h => h.elim

theorem RepD.bare {own' : Nat → Prop} {d : D} (hd : d.bare = true) {v : Value} (h : Rep1 β own w d v) : RepD β own' w d v := by
  cases d with
  | s x => exact RepS.bare hd h
  | agg l => obtain ⟨cs, e1, e2⟩ := h; exact ⟨cs, e1, e2.bare hd⟩
  | tup l => simp [D.bare] at hd

theorem RepLs.get : ∀ {l : List D} {vs : List Value} {u : Nat} {d : D}, RepLs β own w l vs → l[u]? = some d → ∃ v, vs[u]? = some v ∧ Rep1 β own w d v
  | [], _, u, d, _, h => by simp at h
  | x :: l, v :: vs, 0, d, hr, h => by simp at h; subst h; exact ⟨v, rfl, hr.1⟩
  | x :: l, v :: vs, u + 1, d, hr, h => RepLs.get (l := l) (vs := vs) (u := u) hr.2 (by simpa using h)
  | _ :: _, [], _, _, h, _ => h.elim

theorem RepLs.length : ∀ {l : List D} {vs : List Value}, RepLs β own w l vs → vs.length = l.length
  | [], [], _ => rfl
  | _ :: _, _ :: _, h => by simp [RepLs.length h.2]
  | [], _ :: _, h => h.elim
  | _ :: _, [], h => h.elim

theorem RepS.clean {x : SC} (hx : x.clean = true) {v : Value} (h : RepS β own w x v) : RepS (fun _ => none) own w x v := by
  cases x with
  | exts l o =>
    obtain ⟨a, cap, e1, e2, e3⟩ := h
    refine ⟨a, cap, e1, e2, e3.imp id ?_⟩
    rintro ⟨b, off, f1, f2, ⟨f3, f4⟩, f5⟩
    exact ⟨b, off, f1, f2, ⟨fun n e => (nomatch e), f4⟩, f5⟩
  | bool | int | byte | str => exact h
  | _ => simp [SC.clean] at hx

theorem RepL.clean : ∀ {l : List SC} {vs : List Value}, l.all SC.clean = true → RepL β own w l vs → RepL (fun _ => none) own w l vs
  | [], [], _, _ => trivial
  | x :: l, v :: vs, hl, h => by
    simp only [List.all_cons, Bool.and_eq_true] at hl
    exact ⟨h.1.clean hl.1, RepL.clean hl.2 h.2⟩
  | [], _ :: _, _, h => h.elim
  | _ :: _, [], _, h => h.elim

theorem Rep1.clean {d : D} (hd : d.clean = true) {v : Value} (h : Rep1 β own w d v) : Rep1 (fun _ => none) own w d v := by
  cases d with
  | s x => exact RepS.clean hd h
  | agg l => obtain ⟨cs, e1, e2⟩ := h; exact ⟨cs, e1, e2.clean hd⟩
  | tup l => exact h

theorem RepLs.clean : ∀ {l : List D} {vs : List Value}, l.all D.clean = true → RepLs β own w l vs → RepLs (fun _ => none) own w l vs
  | [], [], _, _ => trivial
  | x :: l, v :: vs, hl, h => by
    simp only [List.all_cons, Bool.and_eq_true] at hl
    exact ⟨h.1.clean hl.1, RepLs.clean hl.2 h.2⟩
  | [], _ :: _, _, h => h.elim
  | _ :: _, [], _, h => h.elim

theorem RepD.clean {d : D} (hd : d.cleanT = true) {v : Value} (h : RepD β own w d v) : RepD (fun _ => none) own w d v := by
  cases d with
  | s x => exact RepS.clean hd h
  | agg l => exact Rep1.clean (d := .agg l) hd h
  | tup l => obtain ⟨vs, e1, e2⟩ := h; exact ⟨vs, e1, e2.clean hd⟩

theorem RepS.cleanOnly {b : Nat} (hb : ¬ own b) {x : SC} (hx : x.clean = true) {v : Value} (h : RepS β own w x v) : RepS (onlyB b) own w x v := by
  cases x with
  | exts l o =>
    obtain ⟨a, cap, e1, e2, e3⟩ := h
    simp only [SC.clean] at hx
    cases o with
    | false => simp at hx
    | true =>
      refine ⟨a, cap, e1, e2, e3.imp id ?_⟩
      rintro ⟨b', off, f1, f2, ⟨f3, f4⟩, f5⟩
      exact ⟨b', off, f1, f2, ⟨onlyB_far (fun e => hb (e ▸ f4 rfl)), f4⟩, f5⟩
  | bool | int | byte | str => exact h
  | _ => simp [SC.clean] at hx

theorem RepL.cleanOnly {b : Nat} (hb : ¬ own b) : ∀ {l : List SC} {vs : List Value}, l.all SC.clean = true → RepL β own w l vs → RepL (onlyB b) own w l vs
  | [], [], _, _ => trivial
  | x :: l, v :: vs, hl, h => by
    simp only [List.all_cons, Bool.and_eq_true] at hl
    exact ⟨h.1.cleanOnly hb hl.1, RepL.cleanOnly hb hl.2 h.2⟩
  | [], _ :: _, _, h => h.elim
  | _ :: _, [], _, h => h.elim

theorem Rep1.cleanOnly {b : Nat} (hb : ¬ own b) {d : D} (hd : d.clean = true) {v : Value} (h : Rep1 β own w d v) : Rep1 (onlyB b) own w d v := by
  cases d with
  | s x => exact RepS.cleanOnly hb hd h
  | agg l => obtain ⟨cs, e1, e2⟩ := h; exact ⟨cs, e1, e2.cleanOnly hb hd⟩
  | tup l => exact h

theorem RepLs.cleanOnly {b : Nat} (hb : ¬ own b) : ∀ {l : List D} {vs : List Value}, l.all D.clean = true → RepLs β own w l vs → RepLs (onlyB b) own w l vs
  | [], [], _, _ => trivial
  | x :: l, v :: vs, hl, h => by
    simp only [List.all_cons, Bool.and_eq_true] at hl
    exact ⟨h.1.cleanOnly hb hl.1, RepLs.cleanOnly hb hl.2 h.2⟩
  | [], _ :: _, _, h => h.elim
  | _ :: _, [], _, h => h.elim

theorem RepD.cleanOnly {b : Nat} (hb : ¬ own b) {d : D} (hd : d.cleanT = true) {v : Value} (h : RepD β own w d v) : RepD (onlyB b) own w d v := by
  cases d with
  | s x => exact RepS.cleanOnly hb hd h
  | agg l => exact Rep1.cleanOnly (d := .agg l) hb hd h
  | tup l => obtain ⟨vs, e1, e2⟩ := h; exact ⟨vs, e1, e2.cleanOnly hb hd⟩

theorem tmps_args {d : List D} {own' : Nat → Prop} (hb : d.all D.bare = true) {vs : List Value} (h : RepLs β own w d vs) {n t : Nat} {x : D} (hd : d[t]? = some x) :
    ∃ v, ((⟨vs⟩ : Array Value) ++ Array.replicate (n - (⟨vs⟩ : Array Value).size) undef)[t]? = some v ∧ RepD β own' w x v := by
  obtain ⟨v, g1, g2⟩ := h.get hd
  refine ⟨v, ?_, RepD.bare (List.all_eq_true.1 hb x (List.mem_of_getElem? hd)) g2⟩
  have : t < vs.length := by
    rcases Nat.lt_or_ge t vs.length with h | h
    · exact h
    · rw [List.getElem?_eq_none h] at g1; cases g1
  rw [Array.getElem?_append_left (by simpa using this)]
  simpa using g1

theorem Kept.refl {b : Base} : Kept b b.w := ⟨rfl, rfl, rfl, Nat.le_refl _, fun _ _ _ => rfl⟩

theorem rel0 {args : List D} (hb : args.all D.bare = true) {vs : List Value} (h : RepLs (fun _ => none) (fun _ => True) w args vs) {n : Nat} (hn : args.length ≤ n) :
    Rel ⟨w, fun _ => False, [], noPin⟩ n (st0 args) (fun _ => none) { tmps := (⟨vs⟩ : Array Value) ++ Array.replicate (n - (⟨vs⟩ : Array Value).size) undef, defers := [] } w := by
  have hlen := h.length
  exact ⟨by simp; omega, fun t d hd => tmps_args hb h hd, fun n blk hn => (by simp [st0] at hn), fun _ _ => rfl, fun n n' b h => (nomatch h), fun n b h => (nomatch h), Kept.refl, rfl, fun n b hn h => (nomatch h)⟩

theorem onlyB_at (b : Nat) : onlyB b lentName = some b := by simp [onlyB]

theorem onlyB_some {b n b' : Nat} (h : onlyB b n = some b') : n = lentName ∧ b' = b := by
  unfold onlyB at h
  split at h
  · rename_i e; simp only [Option.some.injEq] at h; exact ⟨Nat.eq_of_beq_eq_true e, h.symm⟩
  · cases h

theorem relM {cells : List SC} {args : List D} (hf : flats cells = true) (hc : cells.all SC.bare = true) (hb : args.all D.bare = true) {b : Nat} {cs : List Value} {ty : TypeId} {vs : List Value} (hw : w.heap[b]? = some (.cells ⟨cs⟩ ty (0, 0)))
    (h1 : RepL (onlyB b) (fun _ => True) w cells cs) (h : RepLs (onlyB b) (fun _ => True) w args vs) {n : Nat} (hn : args.length + 1 ≤ n) :
    Rel ⟨w, fun k => k = b, [], pinB b⟩ n (stM cells args) (onlyB b) { tmps := (⟨.pointer (some ⟨b, 0, none⟩) :: vs⟩ : Array Value) ++ Array.replicate (n - (⟨.pointer (some ⟨b, 0, none⟩) :: vs⟩ : Array Value).size) undef, defers := [] } w := by
  have hlen := h.length
  have hbs : b < w.heap.size := by
    rcases Nat.lt_or_ge b w.heap.size with h | h
    · exact h
    · rw [Array.getElem?_eq_none h] at hw; cases hw
  have hp : RepLs (onlyB b) (fun _ => True) w (.s (.ptr lentName 0) :: args) (.pointer (some ⟨b, 0, none⟩) :: vs) := ⟨⟨b, onlyB_at b, rfl⟩, h⟩
  refine ⟨by simp; omega, fun t d hd => tmps_args (by simpa [D.bare, SC.bare] using hb) hp hd, fun m blk hm => ?_, fun m hm => ?_, fun m m' x e e' => ?_, fun m x e => ?_, Kept.refl, rfl, fun n x hn hx b' h' => ?_⟩
  · simp only [stM] at hm
    split at hm
    · rename_i e
      simp only [Option.some.injEq] at hm
      subst hm
      obtain rfl := Nat.eq_of_beq_eq_true e
      exact ⟨b, cs, ty, onlyB_at b, hw, h1.bare hc, hf⟩
    · cases hm
  · simp only [stM] at hm
    unfold onlyB
    split at hm
    · cases hm
    · rename_i e; simp only [e]
  · rw [(onlyB_some e).1, (onlyB_some e').1]
  · obtain ⟨rfl, rfl⟩ := onlyB_some e; exact ⟨.inr rfl, hbs⟩
  · simp only [pinB, Option.some.injEq] at hx; obtain ⟨e1, e2⟩ := onlyB_some h'; subst e1; omega

theorem loopAt_noReg : ∀ (c : Code) (i : Nat) (k : List K) (j : Nat) (x : Code) (kk : List K), loopAt i k c j = some (x, kk) → noReg k = true → noReg kk = true := by
  intro c
  induction c with
  | seq a b iha ihb =>
    intro i k j x kk h hn
    simp only [loopAt] at h
    split at h
    · rename_i r hx
      simp only [Option.some.injEq] at h
      subst h
      exact iha _ _ _ _ _ hx hn
    · exact ihb _ _ _ _ _ h hn
  | cond q a b iha ihb =>
    intro i k j x kk h hn
    simp only [loopAt] at h
    split at h
    · rename_i r hx
      simp only [Option.some.injEq] at h
      subst h
      exact iha _ _ _ _ _ hx hn
    · exact ihb _ _ _ _ _ h hn
  | block id a ih => intro i k j x kk h hn; simp only [loopAt] at h; exact ih _ _ _ _ _ h hn
  | loop b ih =>
    intro i k j x kk h hn
    simp only [loopAt] at h
    split at h
    · simp only [Option.some.injEq, Prod.mk.injEq] at h
      obtain ⟨_, rfl⟩ := h
      exact hn
    · exact ih _ _ _ _ _ h hn
  | _ => intro i k j x kk h; simp [loopAt] at h

/-- a body is carried out as its tree says -/
theorem tree_wp (E : Env P c z) (hz : ZeroFlat c z) {body : Code} (hok : regsOk c body = true) (hN : c.n = N) {rs : List ResultVar} {R : D → List SC → Prop} {Rd : Int → Prop}
    (hQ : ∀ (A : Nat → List (Nat × D) → List (Nat × Blk) → Prop) s β a w, (finish c rs s).holds R Rd A → Rel w0 N s β a w → Qf .ret a w ∧ Qf .normal a w)
    (hD : ∀ n s s1 β a w w', Rd n → c.hold s = true → Grow c s s1 → Rel w0 N s1 β a w → Left w0 N c s1 β a w' → Qf (.panic (errChain n)) a w')
    {γ : Nat → Type} (T : (i : Nat) → γ i → List (Nat × D) × List (Nat × Blk)) (M : (i : Nat) → γ i → Nat) (n0 : Nat)
    (hmain : (sym c z rs n0 [.code 0 body] s).holds R Rd (Arr T fun _ _ => True))
    (hround : ∀ i g, i < nloops body → (sym c z rs n0 (roundOf body i) (St.of (T i g).1 (T i g).2)).holds R Rd (Arr T fun j g' => M j g' < M i g))
    (hR : Rel w0 N s β a w) : body.wp P Qf a w := by
  let BK := bkc P Qf body (nloops body)
  have hBK : ∀ i x k, loopAt 0 [] body i = some (x, k) → BK i = iwp P (.inLoop x) (kwp P Qf BK k) := by
    intro i x k hx
    have hi : i < nloops body := by have := loopAt_in hx; omega
    have h1 := bkc_of (P := P) (Qf := Qf) hx (nloops body) hi
    rw [show BK i = bkc P Qf body (nloops body) i from rfl, h1, kwp_marks (fun j hj => (bkc_low hj (nloops body) (by omega)).symm) k (round_body hx hok).2.2.2]
  have key : ∀ n i g, M i g < n → ∀ x k, loopAt 0 [] body i = some (x, k) → ∀ β a w', Rel w0 N (St.of (T i g).1 (T i g).2) β a w' →
      x.wp P (Exit.then (iwp P (.inLoop x) (kwp P Qf BK k)) (kwp P Qf BK k)) a w' := by
    intro n
    induction n with
    | zero => intro i g h; omega
    | succ n ih =>
      intro i g hM x k hx β a w' hR
      have hi : i < nloops body := by have := loopAt_in hx; omega
      obtain ⟨c1, c2, c3, c4⟩ := round_body hx hok
      have hr := hround i g hi
      have hro : roundOf body i = .code (i + 1) x :: .mark i :: k := by unfold roundOf; rw [hx]
      rw [hro] at hr
      have := (sym_sound (Qf := Qf) (BK := BK) (body := body) (A := Arr T fun j g' => M j g' < M i g) E hz hN (hQ _) hD (fun j v m β a w'' x' k' hA hx' hR' => by
          obtain ⟨g', hg, e1, e2⟩ := hA
          exact wp_loop_iwp (ih j g' (by omega) x' k' hx' β a w'' (hR'.norm e1 e2))) (fun j v m β a w'' hj hA hR' => by
          obtain ⟨g', hg, e1, e2⟩ := hA
          obtain ⟨⟨x', k'⟩, hx'⟩ := Option.isSome_iff_exists.1 ((loopAt_isSome body 0 j []).2 ⟨Nat.zero_le _, by omega⟩)
          rw [hBK j x' k' hx']
          exact iwp_loop (ih j g' (by omega) x' k' hx' β a w'' (hR'.norm e1 e2))) n0).1 (.code (i + 1) x :: .mark i :: k) _ β a w' (loopAt_noReg body 0 [] i x k hx rfl) ⟨hi, c4.mono (by omega)⟩ c1 (fun y hy => by
            rcases List.mem_cons.1 hy with rfl | hy
            · exact c2
            rcases List.mem_cons.1 hy with rfl | hy
            · rfl
            · exact c3 y hy) hr hR
      simp only [kwp] at this
      refine wp_mono this fun e a w h => ?_
      cases e with
      | normal => simp only [kwp, hBK i x k hx] at h; exact h
      | _ => exact h
  have := (sym_sound (Qf := Qf) (BK := BK) (body := body) (A := Arr T fun _ _ => True) E hz hN (hQ _) hD (fun j v m β a w'' x' k' hA hx' hR' => by
      obtain ⟨g', hg, e1, e2⟩ := hA
      exact wp_loop_iwp (key _ j g' (Nat.lt_succ_self _) x' k' hx' β a w'' (hR'.norm e1 e2))) (fun j v m β a w'' hj hA hR' => by
      obtain ⟨g', hg, e1, e2⟩ := hA
      obtain ⟨⟨x', k'⟩, hx'⟩ := Option.isSome_iff_exists.1 ((loopAt_isSome body 0 j []).2 ⟨Nat.zero_le _, by omega⟩)
      rw [hBK j x' k' hx']
      exact iwp_loop (key _ j g' (Nat.lt_succ_self _) x' k' hx' β a w'' (hR'.norm e1 e2))) n0).1 [.code 0 body] _ _ _ w rfl trivial ⟨fun _ _ e => e, trivial⟩ (fun y hy => by
        rcases List.mem_cons.1 hy with rfl | hy
        · exact hok
        · cases hy) hmain hR
  simp only [kwp] at this
  exact this

/-- what is told of the function itself -/
structure Fn (P : Program) (c : Cfg) (f : FuncId) (fn : Func) (body : Code) : Prop where
  at_ : P.funcs[f]? = some fn
  has_ : fn.body = some body
  ok : regsOk c body = true
  nm : (fn.name == "runtime.NumGoroutine") = false
  sz : c.n = fn.ntmps

theorem Fn.has {f : FuncId} {fn : Func} {body : Code} (F : Fn P c f fn body) : HasBody P f := ⟨fn, F.at_, F.nm, by simp [F.has_]⟩

theorem Kept.below {w' : World} {dl : List Deferred} {lb : Nat → Option Nat} (h : Kept ⟨w, fun _ => False, dl, lb⟩ w') : Below w.heap.size w w' := ⟨h.os, h.tape, h.output, h.size, fun k hk => h.block k hk (fun h => h)⟩

theorem con_tree (E : Env P c z) (hz : ZeroFlat c z) {f : FuncId} {fn : Func} {body : Code} (F : Fn P c f fn body) {args : List D} (hargs : args.length ≤ fn.ntmps) (hb : args.all D.bare = true) {r : D}
    {γ : Nat → Type} (T : (i : Nat) → γ i → List (Nat × D) × List (Nat × Blk)) (M : (i : Nat) → γ i → Nat) (n0 : Nat)
    (hmain : (sym c z fn.results.toList n0 [.code 0 body] (st0 args)).holds (fun d _ => d.norm = r.norm) (fun _ => False) (Arr T fun _ _ => True))
    (hround : ∀ i g, i < nloops body → (sym c z fn.results.toList n0 (roundOf body i) (St.of (T i g).1 (T i g).2)).holds (fun d _ => d.norm = r.norm) (fun _ => False) (Arr T fun j g' => M j g' < M i g)) :
    Con P f args r := by
  refine ⟨F.has, fun w vs hv => calls_of_wp F.at_ F.has_ ?_⟩
  refine tree_wp E hz F.ok F.sz (fun A s β a w' h hR => ?_) (fun n s s1 β a w w' h => h.elim) T M n0 hmain hround (rel0 hb hv hargs)
  obtain ⟨v, d, l, g1, g2, g3, g4, _⟩ := finish_ok E hR h
  have : a.defers = [] ∧ ∃ v, (results fn a.tmps).run P w' = .ok v w' ∧ ∃ u, Ending.returned v = .returned u ∧ RepD (fun _ => none) (fun b => w.heap.size ≤ b) w' r u ∧ Below w.heap.size w w' :=
    ⟨hR.dfr, v, g1, v, rfl, repD_eq g4 (g2.clean g3), hR.bel.below⟩
  exact ⟨this, this⟩

theorem conDie_tree (E : Env P c z) (hz : ZeroFlat c z) {f : FuncId} {fn : Func} {body : Code} (F : Fn P c f fn body) {args : List D} (hargs : args.length ≤ fn.ntmps) (hb : args.all D.bare = true) {e : Int}
    {γ : Nat → Type} (T : (i : Nat) → γ i → List (Nat × D) × List (Nat × Blk)) (M : (i : Nat) → γ i → Nat) (n0 : Nat)
    (hmain : (sym c z fn.results.toList n0 [.code 0 body] (st0 args)).holds (fun _ _ => False) (fun n => n = e) (Arr T fun _ _ => True))
    (hround : ∀ i g, i < nloops body → (sym c z fn.results.toList n0 (roundOf body i) (St.of (T i g).1 (T i g).2)).holds (fun _ _ => False) (fun n => n = e) (Arr T fun j g' => M j g' < M i g)) :
    ConDie P f args e := by
  refine ⟨F.has, fun w vs hv => calls_of_wp F.at_ F.has_ ?_⟩
  refine tree_wp E hz F.ok F.sz (fun A s β a w' h hR => ?_) (fun n s s1 β a w1 w' h _ _ _ hl => ?_) T M n0 hmain hround (rel0 hb hv hargs)
  · obtain ⟨v, d, l, g1, g2, g3, g4, _⟩ := finish_ok E hR h
    exact g4.elim
  · subst h
    obtain ⟨s2, β2, h2, _⟩ := hl.ex
    exact ⟨h2.dfr, rfl, h2.bel.below⟩

theorem conM_tree (E : Env P c z) (hz : ZeroFlat c z) {f : FuncId} {fn : Func} {body : Code} (F : Fn P c f fn body) {cells cells' : List SC} {args : List D} (hargs : args.length + 1 ≤ fn.ntmps) (hb : args.all D.bare = true)
    (hf : flats cells = true) (hc : cells.all SC.bare = true) {r : D}
    {γ : Nat → Type} (T : (i : Nat) → γ i → List (Nat × D) × List (Nat × Blk)) (M : (i : Nat) → γ i → Nat) (n0 : Nat)
    (hmain : (sym c z fn.results.toList n0 [.code 0 body] (stM cells args)).holds (fun d l => d.norm = r.norm ∧ l.map SC.norm = cells'.map SC.norm ∧ l ≠ []) (fun _ => False) (Arr T fun _ _ => True))
    (hround : ∀ i g, i < nloops body → (sym c z fn.results.toList n0 (roundOf body i) (St.of (T i g).1 (T i g).2)).holds (fun d l => d.norm = r.norm ∧ l.map SC.norm = cells'.map SC.norm ∧ l ≠ []) (fun _ => False) (Arr T fun j g' => M j g' < M i g)) :
    ConM P f cells args r cells' := by
  refine ⟨F.has, fun w b cs ty vs hw h1 hv => calls_of_wp F.at_ F.has_ ?_⟩
  refine tree_wp E hz F.ok F.sz (fun A s β a w' h hR => ?_) (fun n s s1 β a w w' h => h.elim) T M n0 hmain hround (relM hf hc hb hw h1 hv hargs)
  obtain ⟨v, d, l, g1, g2, g3, ⟨g4, g5, g6⟩, g7, g8⟩ := finish_ok E hR h
  have hbs : ¬ (w.heap.size ≤ b) := by
    intro hge; rw [Array.getElem?_eq_none hge] at hw; cases hw
  rcases g8 with ⟨_, rfl⟩ | ⟨blk, hm, rfl⟩
  · exact absurd rfl g6
  · obtain ⟨b', cs', ty', k1, k2, k3, k4⟩ := hR.mem _ _ hm
    obtain rfl : b' = b := by have := hR.lnt lentName (b + 0) (Nat.le_refl _) (by simp [pinB]) b' k1; omega
    have : a.defers = [] ∧ ∃ v, (results fn a.tmps).run P w' = .ok v w' ∧ ∃ u cs' ty', Ending.returned v = .returned u ∧ RepD (onlyB b') (fun b => w.heap.size ≤ b) w' r u ∧
        w'.heap[b']? = some (.cells ⟨cs'⟩ ty' (0, 0)) ∧ RepL (onlyB b') (fun b => w.heap.size ≤ b) w' cells' cs' ∧ Kept ⟨w, fun k => k = b', [], pinB b'⟩ w' :=
      ⟨hR.dfr, v, g1, v, cs', ty', rfl, repD_eq g4 (g2.cleanOnly hbs g3), k2, repL_norm.1 (g5 ▸ repL_norm.2 (k3.cleanOnly hbs g7)), hR.bel⟩
    exact ⟨this, this⟩

theorem conMDie_tree (E : Env P c z) (hz : ZeroFlat c z) {f : FuncId} {fn : Func} {body : Code} (F : Fn P c f fn body) {cells : List SC} {args : List D} (hargs : args.length + 1 ≤ fn.ntmps) (hb : args.all D.bare = true)
    (hf : flats cells = true) (hc : cells.all SC.bare = true) {e : Int}
    {γ : Nat → Type} (T : (i : Nat) → γ i → List (Nat × D) × List (Nat × Blk)) (M : (i : Nat) → γ i → Nat) (n0 : Nat)
    (hmain : (sym c z fn.results.toList n0 [.code 0 body] (stM cells args)).holds (fun _ _ => False) (fun n => n = e) (Arr T fun _ _ => True))
    (hround : ∀ i g, i < nloops body → (sym c z fn.results.toList n0 (roundOf body i) (St.of (T i g).1 (T i g).2)).holds (fun _ _ => False) (fun n => n = e) (Arr T fun j g' => M j g' < M i g)) :
    ConMDie P f cells args e := by
  refine ⟨F.has, fun w b cs ty vs hw h1 hv => calls_of_wp F.at_ F.has_ ?_⟩
  refine tree_wp E hz F.ok F.sz (fun A s β a w' h hR => ?_) (fun n s s1 β a w1 w' h _ _ _ hl => ?_) T M n0 hmain hround (relM hf hc hb hw h1 hv hargs)
  · obtain ⟨v, d, l, g1, g2, g3, g4, _⟩ := finish_ok E hR h
    exact g4.elim
  · subst h
    obtain ⟨s2, β2, h2, _⟩ := hl.ex
    exact ⟨h2.dfr, rfl, h2.bel⟩
end
end Go.Adit
