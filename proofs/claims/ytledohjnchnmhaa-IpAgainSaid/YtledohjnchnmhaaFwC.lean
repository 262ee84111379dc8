/- Part of the proofs of the laws: lemmas and contracts, no statement of its own. -/
import Derived.Test.YtledohjnchnmhaaFw
set_option linter.unusedVariables false
set_option linter.unusedSimpArgs false
namespace Go.Adit
open Go.RowKit

section
variable {c : Cfg} {z : Zs} {s s' : St}

theorem fill_congr {place : Nat → Option (Nat × Nat)} : ∀ {ps : List (Nat × Operand)} {l : List SC}, (∀ p ∈ ps, ev s p.2 = ev s' p.2) → fillParts place s l ps = fillParts place s' l ps
  | [], _, _ => rfl
  | (i, x) :: r, l, h => by
    have hx : ev s x = ev s' x := h (i, x) (by simp)
    have ih : ∀ l', fillParts place s l' r = fillParts place s' l' r := fun l' => fill_congr fun p hp => h p (List.mem_cons_of_mem _ hp)
    simp only [fillParts, hx, ih]

theorem argOf_congr {d : D} (h : ∀ n ∈ d.nm, s.m n = s'.m n) : argOf s d = argOf s' d := by
  cases d with
  | agg l => rfl
  | tup l => rfl
  | s x => cases x <;> first
    | rfl
    | (simp only [argOf]; rw [h _ (by simp [D.nm, SC.names])])

theorem args_congr : ∀ {l : List Operand}, (∀ x ∈ l, ev s x = ev s' x) → (∀ x ∈ l, ∀ d, ev s x = some d → ∀ n ∈ d.nm, s.m n = s'.m n) → argsOf s l = argsOf s' l
  | [], _, _ => rfl
  | x :: l, h1, h2 => by
    simp only [argsOf]
    rw [args_congr (fun y hy => h1 y (List.mem_cons_of_mem _ hy)) (fun y hy => h2 y (List.mem_cons_of_mem _ hy))]
    have : (ev s x).bind (argOf s) = (ev s' x).bind (argOf s') := by
      rw [← h1 x (by simp)]
      cases hx : ev s x with
      | none => rfl
      | some d => exact argOf_congr (h2 x (by simp) d hx)
    rw [this]

theorem flat_congr : ∀ {l : List Operand}, (∀ x ∈ l, ev s x = ev s' x) → argsFlat s l = argsFlat s' l
  | [], _ => rfl
  | x :: l, h1 => by
    simp only [argsFlat]
    rw [flat_congr (fun y hy => h1 y (List.mem_cons_of_mem _ hy)), h1 x (by simp)]

theorem lentOf_congr {m : Nat} {l : List Operand} (h1 : ∀ x ∈ l, ev s x = ev s' x) (h2 : ∀ x ∈ l, ∀ d, ev s x = some d → ∀ n ∈ d.nm, s.m n = s'.m n) : lentOf m s l = lentOf m s' l := by
  cases l with
  | nil => rfl
  | cons x r =>
    simp only [lentOf]
    rw [← h1 x (by simp)]
    split
    · rename_i n off hx
      rw [h2 x (by simp) _ hx n (by simp [D.nm, SC.names])]
    · rfl

theorem lentOf_args {m : Nat} {l : List Operand} {q : Nat × Blk × List Operand} (h : lentOf m s l = some q) : ∀ x ∈ q.2.2, x ∈ l := by
  cases l with
  | nil => simp [lentOf] at h
  | cons x r =>
    simp only [lentOf] at h
    split at h
    · split at h
      · split at h
        · simp only [Option.some.injEq] at h; subst h; exact fun x hx => List.mem_cons_of_mem _ hx
        · cases h
      · cases h
    · cases h

theorem callE_congr {f : Nat} {l : List Operand} (h1 : ∀ x ∈ l, ev s x = ev s' x) (h2 : ∀ x ∈ l, ∀ d, ev s x = some d → ∀ n ∈ d.nm, s.m n = s'.m n) : callE c s f l = callE c s' f l := by
  unfold callE
  rw [args_congr h1 h2]
  split
  · unfold sameE
    split
    · rw [h1 _ (.head _)]
    · rfl
  · split
    · rename_i m hm
      rw [← lentOf_congr h1 h2]
      cases hq : lentOf m s l with
      | none => rfl
      | some q => simp only [Option.bind_some]; rw [flat_congr fun x hx => h1 x (lentOf_args hq x hx)]
    · rfl

theorem dieE_congr {f : Nat} {l : List Operand} (h1 : ∀ x ∈ l, ev s x = ev s' x) (h2 : ∀ x ∈ l, ∀ d, ev s x = some d → ∀ n ∈ d.nm, s.m n = s'.m n) : dieE c s f l = dieE c s' f l := by
  unfold dieE
  rw [args_congr h1 h2]
  split
  · rfl
  · split
    · rename_i m hm
      rw [← lentOf_congr h1 h2]
      cases hq : lentOf m s l with
      | none => rfl
      | some q => simp only [Option.bind_some]; rw [flat_congr fun x hx => h1 x (lentOf_args hq x hx)]
    · rfl

theorem copyE_congr {l : List Operand} {ts : List Nat} (h1 : ∀ x ∈ l, ev s x = ev s' x) (h2 : ∀ x ∈ l, ∀ d, ev s x = some d → ∀ n ∈ d.nm, s.m n = s'.m n) : copyE c s l ts = copyE c s' l ts := by
  unfold copyE
  split
  · rw [← h1 _ (.head _), ← h1 _ (.tail _ (.head _))]
    split
    · rename_i hx _
      rw [h2 _ (.head _) _ hx _ (by simp [D.nm, SC.names])]
    · rfl
  · rfl

theorem minmax_congr {mx : Bool} {l : List Operand} (h : ∀ x ∈ l, ev s x = ev s' x) : minmax mx s l = minmax mx s' l := by
  unfold minmax
  split
  · rw [h _ (by simp), h _ (by simp)]
  · rfl

theorem opEval_congr {o : Oper} (h4 : opCls c o.op < 4) (hev : ∀ x ∈ o.op.operands, ev s x = ev s' x)
    (hm : opCls c o.op = 0 ∨ opCls c o.op = 2 ∨ ∀ x ∈ o.op.operands, ∀ d, ev s x = some d → ∀ n ∈ d.nm, s.m n = s'.m n) : opEval c z s o = opEval c z s' o := by
  obtain ⟨dst, op, ty, pos, af, g⟩ := o
  cases op <;> simp [opCls] at h4 <;> simp only [opEval, opCls, Op.operands] at hev hm ⊢
  case move x => rw [hev x (by simp)]
  case assign x => rw [hev x (by simp)]
  case pick k x y => rw [hev k (by simp), hev x (by simp), hev y (by simp)]
  case box t x => rw [hev x (by simp)]
  case build t ps =>
    have hp : ∀ p ∈ ps.toList, ev s p.2 = ev s' p.2 := fun p hp => hev p.2 (by simp; exact ⟨p.1, by simpa using hp⟩)
    have := fun place l => fill_congr (place := place) (l := l) hp
    simp only [this]
  case buildSlice t n ps =>
    have hp : ∀ p ∈ ps.toList, ev s p.2 = ev s' p.2 := fun p hp => hev p.2 (by simp; exact ⟨p.1, by simpa using hp⟩)
    have := fun place l => fill_congr (place := place) (l := l) hp
    simp only [this]
  case load t x =>
    have hm' := hm.resolve_left (by decide) |>.resolve_left (by decide)
    rw [← hev x (by simp)]
    cases hx : ev s x with
    | none => rfl
    | some d =>
      cases d with
      | s y =>
        cases y with
        | ptr n off => simp only; rw [hm' x (by simp) _ hx n (by simp [D.nm, SC.names])]
        | _ => rfl
      | _ => rfl
  case store t x y =>
    have hm' := hm.resolve_left (by decide) |>.resolve_left (by decide)
    rw [← hev x (by simp), ← hev y (by simp)]
    cases hx : ev s x with
    | none => rfl
    | some d =>
      cases d with
      | s u =>
        cases u with
        | ptr n off =>
          have e := hm' x (by simp) _ hx n (by simp [D.nm, SC.names])
          cases (ev s y).bind cellsOf with
          | none => rfl
          | some cs => simp only [e]
        | _ => rfl
      | _ => rfl
  case nilCheck x => rw [hev x (by simp)]
  case binOp op t x y t' => rw [hev x (by simp), hev y (by simp)]
  case unOp op t x => rw [hev x (by simp)]
  case convert src dst' x =>
    have hm' := hm.resolve_left (by decide) |>.resolve_left (by decide)
    rw [← hev x (by simp)]
    have key : ∀ n off len cap, ev s x = some (.s (.lsl n off len cap)) → s.m n = s'.m n := fun n off len cap hx => hm' x (by simp) _ hx n (by simp [D.nm, SC.names])
    split
    · rfl
    · rename_i hx
      rw [key _ _ _ _ hx]
    · rfl
    · rfl
  case slice t x lo hi mx =>
    cases mx with
    | some m => rfl
    | none =>
      simp only
      rw [hev x (by simp)]
      have h1 : lo.map (ev s) = lo.map (ev s') := by cases lo with | none => rfl | some y => simp [hev y (by simp)]
      have h2 : hi.map (ev s) = hi.map (ev s') := by cases hi with | none => rfl | some y => simp [hev y (by simp)]
      rw [h1, h2]
  case fieldAddr t x f => rw [hev x (by simp)]
  case field t x f => rw [hev x (by simp)]
  case indexAddr t x i => rw [hev x (by simp), hev i (by simp)]
  case index t x i => rw [hev x (by simp), hev i (by simp)]
  case extract x i => rw [hev x (by simp)]
  case makeSlice t x y => rw [hev x (by simp), hev y (by simp)]
  case call k =>
    have hm' : ∀ x ∈ k.operands, ∀ d, ev s x = some d → ∀ n ∈ d.nm, s.m n = s'.m n := by
      rcases hm with h | h | h
      · exfalso; revert h; split
        · split <;> simp
        · simp
        · simp
        · simp
      · exfalso; revert h; split
        · split <;> simp
        · simp
        · simp
        · simp
      · exact h
    have hargs : ∀ x ∈ k.args.toList, x ∈ k.operands := fun x hx => by simp [Call.operands]; right; simpa using hx
    rw [minmax_congr (fun x hx => hev x (hargs x hx)), minmax_congr (fun x hx => hev x (hargs x hx))]
    split
    · exact callE_congr (fun x hx => hev x (hargs x hx)) (fun x hx => hm' x (hargs x hx))
    · split
      · rename_i x t ts hl ht
        rw [hev x (hargs x (by rw [hl]; simp))]
      · rfl
    · rename_i hf; exfalso; revert h4; rw [hf]; simp
    · exact copyE_congr (fun x hx => hev x (hargs x hx)) (fun x hx => hm' x (hargs x hx))
    · rfl
    · rfl
    · rfl

theorem dieOf_congr {o : Oper} (hev : ∀ x ∈ o.op.operands, ev s x = ev s' x)
    (hm : opCls c o.op = 0 ∨ opCls c o.op = 2 ∨ ∀ x ∈ o.op.operands, ∀ d, ev s x = some d → ∀ n ∈ d.nm, s.m n = s'.m n) : dieOf c s o = dieOf c s' o := by
  obtain ⟨dst, op, ty, pos, af, g⟩ := o
  unfold dieOf
  cases op <;> try rfl
  case call k =>
    simp only [opCls, Op.operands] at hev hm ⊢
    have hm' : ∀ x ∈ k.operands, ∀ d, ev s x = some d → ∀ n ∈ d.nm, s.m n = s'.m n := by
      rcases hm with h | h | h
      · exfalso; revert h; split
        · split <;> simp
        · simp
        · simp
        · simp
      · exfalso; revert h; split
        · split <;> simp
        · simp
        · simp
        · simp
      · exact h
    have hargs : ∀ x ∈ k.args.toList, x ∈ k.operands := fun x hx => by simp [Call.operands]; right; simpa using hx
    split
    · exact dieE_congr (fun x hx => hev x (hargs x hx)) (fun x hx => hm' x (hargs x hx))
    · rfl
end
end Go.Adit

namespace Go.Adit
open Go.RowKit

section
variable {c : Cfg} {z : Zs} {s s' : St} {ops : Array Oper} {asm : List (Nat × Bool)} {dk : Option (Nat × Int)}

/-- one of the operands names this block -/
def Names (s : St) (o : Oper) (n : Nat) : Prop := ∃ u ∈ o.op.operands, ∃ d, ev s u = some d ∧ n ∈ d.nm

theorem cls_wr {op : Op} (h : opCls c op = 3) : isWr op = true := by cases op <;> simp [isWr, opCls] at h ⊢

theorem wr_cls {op : Op} (h : isWr op = true) : opCls c op ≠ 2 := by
  cases op <;> simp [isWr] at h <;> simp [opCls]
  split
  · split <;> simp
  · simp
  · simp
  · simp

theorem opEval_blk {o : Oper} {e : Eff} {n : Nat} {b : Blk} (he : opEval c z s o = some e) (hb : e.blk = some (n, b)) :
    (opCls c o.op = 3 ∧ s.m n ≠ none ∧ Names s o n) ∨ (opCls c o.op = 2 ∧ o.dst = some n) := by
  have pS : ∀ {x : SC}, pureS x = some e → e.blk = none := fun h => by simp only [pureS, Option.some.injEq] at h; subst h; rfl
  have pV : ∀ {x : Option D}, x.bind pureV = some e → e.blk = none := fun {x} h => by
    cases x with
    | none => simp at h
    | some d => simp only [Option.bind_some, pureV, Option.some.injEq] at h; subst h; rfl
  have no : e.blk = none → False := fun h => by rw [h] at hb; cases hb
  unfold opEval at he
  split at he
  · exact (no (pV he)).elim
  · exact (no (pV he)).elim
  · split at he
    · exact (no (pV he)).elim
    · exact (no (pV he)).elim
    · cases he
  · rename_i ho
    split at he
    · rename_i d l h1 h2
      simp only [Option.some.injEq] at he; subst he
      simp only [Option.some.injEq, Prod.mk.injEq] at hb
      exact .inr ⟨by rw [ho]; rfl, by rw [← hb.1]; exact h1⟩
    · cases he
  · rename_i ho
    split at he
    · rename_i d l h1 h2
      split at he
      · simp only [Option.some.injEq] at he; subst he
        simp only [Option.some.injEq, Prod.mk.injEq] at hb
        exact .inr ⟨by rw [ho]; rfl, by rw [← hb.1]; exact h1⟩
      · cases he
    · cases he
  · split at he
    · split at he
      · simp only [Option.map_eq_some_iff] at he; obtain ⟨r, _, rfl⟩ := he; cases hb
      · cases he
    · split at he
      · simp only [Option.map_eq_some_iff] at he; obtain ⟨r, _, rfl⟩ := he; cases hb
      · cases he
    · cases he
  · rename_i ho
    split at he
    · rename_i e1 d h1 h2
      split at he
      · simp only [Option.bind_eq_some_iff] at he
        obtain ⟨r, h4, he⟩ := he
        split at he
        · simp only [Option.some.injEq] at he; subst he
          simp only [Option.some.injEq, Prod.mk.injEq] at hb
          exact .inr ⟨by rw [ho]; rfl, by rw [← hb.1]; exact h2⟩
        · cases he
      · cases he
    · cases he
  · split at he
    · split at he
      · split at he
        · exact (no (pV he)).elim
        · cases he
      · cases he
    · split at he
      · simp only [pureV, Option.some.injEq] at he; subst he; cases hb
      · exact (no (pS he)).elim
      · exact (no (pS he)).elim
      · cases he
    · split at he
      · exact (no (pS he)).elim
      · cases he
    · split at he
      · exact (no (pS he)).elim
      · cases he
    · cases he
  · rename_i ho
    split at he
    · rename_i hx _
      split at he
      · rename_i blk hm
        split at he
        · simp only [Option.map_eq_some_iff] at he
          obtain ⟨l', h2, rfl⟩ := he
          simp only [Option.some.injEq, Prod.mk.injEq] at hb
          exact .inl ⟨by rw [ho]; rfl, by rw [← hb.1, hm]; simp, _, by rw [ho]; simp [Op.operands], _, hx, by simp [D.nm, SC.names, hb.1]⟩
        · cases he
      · cases he
    · cases he
  · split at he
    · exact (no (pS he)).elim
    · cases he
  · rename_i op t x y t' ho
    split at he
    · rename_i dx dy hx hy
      have hI : ∀ k k' m n, binopI op k k' m n = some e → False := by
        intro k k' m n h
        unfold binopI at h
        split at h
        · simp only [Option.bind_eq_some_iff, Option.some.injEq] at h; obtain ⟨r, _, rfl⟩ := h; cases hb
        · exact no (pS h)
        · simp only [Option.bind_eq_some_iff, Option.some.injEq] at h; obtain ⟨r, _, rfl⟩ := h; cases hb
        · cases h
      unfold binop at he
      split at he
      · split at he
        · split at he
          · simp only [Option.bind_eq_some_iff] at he; obtain ⟨v, _, he⟩ := he; exact (no (pS he)).elim
          · cases he
        · cases he
      · split at he
        · simp only [Option.some.injEq] at he; subst he; cases hb
        · split at he
          · exact (no (pS he)).elim
          · cases he
      · split at he
        · exact (no (pS he)).elim
        · cases he
      · split at he
        · exact (no (pS he)).elim
        · cases he
      · split at he
        · exact (hI _ _ _ _ he).elim
        · cases he
      · cases he
    · cases he
  · split at he
    · exact (no (pS he)).elim
    · exact (no (pS he)).elim
    · cases he
  · split at he
    · simp only [Option.bind_eq_some_iff] at he; obtain ⟨r, _, he⟩ := he; exact (no (pS he)).elim
    · split at he
      · split at he
        · simp only [Option.bind_eq_some_iff] at he; obtain ⟨r, _, he⟩ := he; exact (no (pS he)).elim
        · cases he
      · cases he
    · split at he
      · exact (no (pS he)).elim
      · cases he
    · cases he
  · split at he
    · split at he
      · simp only [Option.some.injEq] at he; subst he; cases hb
      · cases he
    · split at he
      · split at he
        · exact (no (pS he)).elim
        · cases he
      · cases he
    · simp only [Option.bind_eq_some_iff] at he
      obtain ⟨k, _, he⟩ := he
      split at he
      · simp only [Option.some.injEq] at he; subst he; cases hb
      · cases he
    · cases he
  · split at he
    · simp only [Option.bind_eq_some_iff] at he
      obtain ⟨p, _, he⟩ := he
      split at he
      · exact (no (pS he)).elim
      · cases he
    · simp only [Option.bind_eq_some_iff] at he
      obtain ⟨p, _, he⟩ := he
      split at he
      · exact (no (pS he)).elim
      · cases he
    · cases he
  · split at he
    · simp only [Option.bind_eq_some_iff] at he
      obtain ⟨p, _, he⟩ := he
      split at he
      · exact (no (pV he)).elim
      · cases he
    · cases he
  · split at he
    · simp only [Option.bind_eq_some_iff] at he
      obtain ⟨k, _, he⟩ := he
      split at he
      · exact (no (pS he)).elim
      · cases he
    all_goals first
      | cases he
      | (simp only [Option.bind_eq_some_iff] at he
         obtain ⟨k, _, he⟩ := he
         split at he
         · simp only [Option.some.injEq] at he; subst he; cases hb
         · cases he)
      | (simp only [Option.bind_eq_some_iff] at he
         obtain ⟨k, _, he⟩ := he
         split at he
         · exact (no (pS he)).elim
         · cases he)
      | (simp only [Option.bind_eq_some_iff] at he
         obtain ⟨k, _, he⟩ := he
         split at he
         · split at he
           all_goals first
             | cases he
             | (split at he
                · simp only [Option.some.injEq] at he; subst he; cases hb
                · cases he)
         · cases he)
  · split at he
    · simp only [Option.bind_eq_some_iff, Option.some.injEq] at he
      obtain ⟨k, _, rfl⟩ := he
      cases hb
    · simp only [Option.bind_eq_some_iff] at he
      obtain ⟨k, _, he⟩ := he
      split at he
      · exact (no (pV he)).elim
      · cases he
    · cases he
  · split at he
    · exact (no (pV he)).elim
    · cases he
  · split at he
    · rename_i k ho _ f hf
      unfold callE at he
      split at he
      · unfold sameE at he
        split at he
        · split at he <;> first
            | (simp only [Option.some.injEq] at he; subst he; cases hb)
            | cases he
        · cases he
      split at he
      · rename_i m hm
        simp only [Option.bind_eq_some_iff] at he
        obtain ⟨q, hq, l, _, r, _, he⟩ := he
        split at he
        · simp only [Option.some.injEq] at he; subst he
          simp only [Option.some.injEq] at hb
          refine .inl ⟨by rw [ho]; simp [opCls, hf, hm], ?_⟩
          have hn : q.1 = n := congrArg Prod.fst hb
          subst hn
          have hargs : ∀ x ∈ k.args.toList, x ∈ k.operands := fun x hx => by simp [Call.operands]; right; simpa using hx
          generalize hal : k.args.toList = al at hq
          cases al with
          | nil => simp [lentOf] at hq
          | cons x r =>
            simp only [lentOf] at hq
            split at hq
            · rename_i hx
              split at hq
              · rename_i hmm
                split at hq
                · simp only [Option.some.injEq] at hq; subst hq; simp only
                  exact ⟨by rw [hmm]; simp, x, by rw [ho]; exact hargs x (by rw [hal]; simp), _, hx, by simp [D.nm, SC.names]⟩
                · cases hq
              · cases hq
            · cases hq
        · cases he
      · simp only [Option.bind_eq_some_iff] at he
        obtain ⟨l, _, r, _, he⟩ := he
        split at he
        · simp only [Option.some.injEq] at he; subst he; cases hb
        · cases he
    · split at he
      · split at he <;> first
          | exact (no (pS he)).elim
          | (simp only [Option.bind_eq_some_iff] at he; obtain ⟨_, _, he⟩ := he; exact (no (pS he)).elim)
          | cases he
      · cases he
    · unfold appendE at he
      split at he
      · split at he
        · split at he
          · simp only [Option.bind_eq_some_iff] at he
            obtain ⟨_, _, _, _, he⟩ := he
            split at he
            · simp only [Option.some.injEq] at he; subst he; cases hb
            · cases he
          · cases he
        · cases he
      · cases he
    · rename_i k ho _ hf
      have hargs : ∀ x ∈ k.args.toList, x ∈ k.operands := fun x hx => by simp [Call.operands]; right; simpa using hx
      unfold copyE at he
      split at he
      · rename_i x y _ _ hal _
        split at he
        · rename_i hx _
          split at he
          · rename_i hm
            simp only [Option.bind_eq_some_iff, Option.map_eq_some_iff] at he
            obtain ⟨new, _, l', _, rfl⟩ := he
            simp only [Option.some.injEq, Prod.mk.injEq] at hb
            obtain ⟨rfl, rfl⟩ := hb
            exact .inl ⟨by rw [ho]; simp [opCls, hf], by rw [hm]; simp, x, by rw [ho]; exact hargs _ (by rw [hal]; simp), _, hx, by simp [D.nm, SC.names]⟩
          · cases he
        · cases he
      · cases he
    · unfold minmax at he
      split at he
      · split at he
        · split at he
          · split at he
            · exact (no (pS he)).elim
            · cases he
          · cases he
        · cases he
      · cases he
    · unfold minmax at he
      split at he
      · split at he
        · split at he
          · split at he
            · exact (no (pS he)).elim
            · cases he
          · cases he
        · cases he
      · cases he
    · cases he
  · rename_i ho
    split at he
    · rename_i e1 len cap d h1 _ _ h2
      split at he
      · split at he
        · simp only [Option.some.injEq] at he; subst he
          simp only [Option.some.injEq, Prod.mk.injEq] at hb
          exact .inr ⟨by rw [ho]; rfl, by rw [← hb.1]; exact h2⟩
        · cases he
      · cases he
    · cases he
  · cases he

/-- the new block's name was free (or it is a store) -/
def Fresh (o : Oper) (s : St) (b : Option (Nat × Blk)) : Prop := ∀ n k, b = some (n, k) → isWr o.op = true ∨ (s.m n = none ∧ ¬ hidBase ≤ n)

theorem putD_iff {d0 : Option Nat} {v : D} {s1 : St} : putD c s1 d0 v = some s' ↔ (∀ d, d0 = some d → c.okDst d = true) ∧ s' = ⟨upT s1.t d0 v, s1.m⟩ := by
  cases d0 with
  | none =>
    simp only [putD, upT, Option.some.injEq]
    exact ⟨fun h => ⟨fun d hd => (by cases hd), h.symm⟩, fun h => h.2.symm⟩
  | some d =>
    simp only [putD, upT]
    by_cases h : c.okDst d = true
    · rw [if_pos h]
      simp only [Option.some.injEq]
      exact ⟨fun e => ⟨fun d' hd => (by cases hd; exact h), e.symm⟩, fun e => e.2.symm⟩
    · rw [if_neg h]
      exact ⟨fun e => (by cases e), fun e => absurd (e.1 d rfl) h⟩

theorem putB_iff {o : Oper} {b : Option (Nat × Blk)} {s1 : St} : putB o s b = some s1 ↔ Fresh o s b ∧ s1 = ⟨s.t, upM s.m b⟩ := by
  cases b with
  | none =>
    simp only [putB, upM, Option.some.injEq]
    exact ⟨fun h => ⟨fun n k h => (by cases h), h.symm⟩, fun h => h.2.symm⟩
  | some x =>
    obtain ⟨n, k⟩ := x
    by_cases hs : isWr o.op = true
    · have : putB o s (some (n, k)) = some { s with m := updM s.m n k } := by simp only [putB, hs]
      simp only [this, upM, Option.some.injEq]
      exact ⟨fun h => ⟨fun _ _ _ => .inl hs, h.symm⟩, fun h => h.2.symm⟩
    · have ho : isWr o.op = false := by simpa using hs
      rw [putB_new ho]
      cases hm : s.m n with
      | none =>
        cases hn : Nat.ble hidBase n with
        | false =>
          have hne : ¬ hidBase ≤ n := fun e => by rw [Nat.ble_eq_true_of_le e] at hn; cases hn
          simp only [Option.some.injEq, upM]
          exact ⟨fun h => ⟨fun _ _ h => (by cases h; exact .inr ⟨hm, hne⟩), h.symm⟩, fun h => h.2.symm⟩
        | true =>
          constructor
          · intro h; cases h
          · rintro ⟨h1, _⟩
            rcases h1 n k rfl with h | h
            · exact absurd h hs
            · exact absurd (Nat.le_of_ble_eq_true hn) h.2
      | some q =>
        constructor
        · intro h; cases h
        · rintro ⟨h1, _⟩
          rcases h1 n k rfl with h | h
          · exact absurd h hs
          · rw [hm] at h; cases h.1

theorem put2_gen {o : Oper} {v : D} {b : Option (Nat × Blk)} : put2 c s o v b = some s' ↔ Fresh o s b ∧ (∀ d, o.dst = some d → c.okDst d = true) ∧ s' = ⟨upT (killO o v ⟨s.t, upM s.m b⟩).t o.dst v, (killO o v ⟨s.t, upM s.m b⟩).m⟩ := by
  simp only [put2, Option.bind_eq_some_iff, putB_iff, putD_iff]
  constructor
  · rintro ⟨s1, ⟨h1, rfl⟩, h2, h3⟩; exact ⟨h1, h2, h3⟩
  · rintro ⟨h1, h2, h3⟩; exact ⟨_, ⟨h1, rfl⟩, h2, h3⟩

theorem appName_cls {o : Oper} {v : D} (h : opCls c o.op ≠ 5) : appName o v = none := by
  unfold appName
  split
  · rename_i k hk
    split
    · rename_i hf; exact absurd (by rw [hk]; simp [opCls, hf]) h
    · rfl
  · rfl

theorem killO_none {o : Oper} {v : D} (h : appName o v = none) (s : St) : killO o v s = s := by unfold killO; rw [h]

theorem put2_iff {o : Oper} {v : D} {b : Option (Nat × Blk)} (hc : opCls c o.op ≠ 5) : put2 c s o v b = some s' ↔ Fresh o s b ∧ (∀ d, o.dst = some d → c.okDst d = true) ∧ s' = ⟨upT s.t o.dst v, upM s.m b⟩ := by
  rw [put2_gen, killO_none (appName_cls hc)]

theorem mem_looks {o : Oper} {t : Nat} (h : Operand.tmp t ∈ o.op.operands) : t ∈ o.looksAt ops := by
  unfold Oper.looksAt
  refine List.mem_append.2 (.inl (List.mem_filterMap.2 ⟨.tmp t, by simpa using h, rfl⟩))

theorem ev_up {o : Oper} {dst : Option Nat} {v : D} {m : Nat → Option Blk} (h : ∀ d, dst = some d → d ∉ o.looksAt ops) {x : Operand} (hx : x ∈ o.op.operands) : ev s x = ev ⟨upT s.t dst v, m⟩ x := by
  cases x with
  | tmp t =>
    cases dst with
    | none => rfl
    | some d =>
      have : t ≠ d := fun e => h d rfl (e ▸ mem_looks hx)
      simp [ev, upT, updT_at, this]
  | const v => rfl
  | func f => rfl
  | global g => rfl

theorem guard_up {o : Oper} {dst : Option Nat} {v : D} {m : Nat → Option Blk} (h : ∀ d, dst = some d → d ∉ o.looksAt ops) : guardOf ops s o = guardOf ops ⟨upT s.t dst v, m⟩ o := by
  unfold guardOf
  cases hg : o.guard with
  | none => rfl
  | some g =>
    obtain ⟨j, want⟩ := g
    cases hd : (ops[j]?).bind (·.dst) with
    | none => simp only [hd]
    | some d' =>
      cases dst with
      | none => rfl
      | some d =>
        have : d' ≠ d := by
          intro e
          refine h d rfl ?_
          unfold Oper.looksAt
          refine List.mem_append.2 (.inr ?_)
          simp only [hg, hd, e, Option.toList_some, List.mem_singleton]
        simp only [hd, upT, updT_at, if_neg this]

theorem del_congr {o : Oper} {i : Nat} (hg : guardOf ops s o = guardOf ops s' o) (he : opEval c z s o = opEval c z s' o) (hd : dieOf c s o = dieOf c s' o) : del c z ops asm dk i o s = del c z ops asm dk i o s' := by
  unfold del; rw [hg, he, hd]

theorem del_blk {o : Oper} {i : Nat} {x : Del} (h : del c z ops asm dk i o s = some x) {n : Nat} {b : Blk} (hb : x.blk = some (n, b)) :
    (opCls c o.op = 3 ∧ s.m n ≠ none ∧ Names s o n) ∨ (opCls c o.op = 2 ∧ o.dst = some n) := by
  unfold del at h
  split at h
  · cases h
  · split at h
    · simp only [Option.some.injEq] at h; subst h; cases hb
    · cases h
  · split at h
    · simp only [Option.bind_eq_some_iff] at h
      obtain ⟨e, h1, h2⟩ := h
      split at h2
      · simp only [Option.map_eq_some_iff] at h2
        obtain ⟨d, _, rfl⟩ := h2
        exact opEval_blk h1 hb
      · cases h2
    · cases h

theorem indep_cls {i j : Nat} (h : indepCls i j = true) : i < 4 ∧ j < 4 ∧ (i = 3 → j ≠ 1 ∧ j ≠ 3) ∧ (j = 3 → i ≠ 1) := by
  simp only [indepCls, Bool.and_eq_true, Bool.not_eq_true'] at h
  obtain ⟨h1, h2, h3, h4⟩ := h
  have b : ∀ k, Nat.ble 4 k = false → k < 4 := fun k hk => by
    rcases Nat.lt_or_ge k 4 with h | h
    · exact h
    · rw [Nat.ble_eq_true_of_le h] at hk; cases hk
  refine ⟨b _ h1, b _ h2, fun e => ⟨fun e' => ?_, fun e' => ?_⟩, fun e e' => ?_⟩ <;> simp_all

theorem upT_comm {t : Nat → Option D} {x y : Option Nat} {u v : D} (h : ∀ d, x = some d → y ≠ some d) : upT (upT t x u) y v = upT (upT t y v) x u := by
  cases x with
  | none => rfl
  | some d =>
    cases y with
    | none => rfl
    | some e =>
      have : d ≠ e := fun e' => h d rfl (by rw [e'])
      funext k
      simp only [upT, updT_at]
      by_cases h1 : k = d
      · subst h1; simp [this]
      · simp [h1]

theorem upM_comm {m : Nat → Option Blk} {x y : Option (Nat × Blk)} (h : ∀ n a k b, x = some (n, a) → y = some (k, b) → n ≠ k) : upM (upM m x) y = upM (upM m y) x := by
  cases x with
  | none => rfl
  | some p =>
    cases y with
    | none => rfl
    | some q =>
      have : p.1 ≠ q.1 := h p.1 p.2 q.1 q.2 rfl rfl
      funext k
      simp only [upM, updM_at]
      by_cases h1 : k = p.1
      · subst h1; simp [this]
      · simp [h1]

theorem upM_ne {m : Nat → Option Blk} {b : Option (Nat × Blk)} {n : Nat} (h : ∀ k x, b = some (k, x) → k ≠ n) : upM m b n = m n := by
  cases b with
  | none => rfl
  | some p => simp only [upM, updM_at]; rw [if_neg (fun e => h p.1 p.2 rfl e.symm)]

theorem opCls_lt {op : Op} (h : opCls c op < 4) : opCls c op = 0 ∨ opCls c op = 1 ∨ opCls c op = 2 ∨ opCls c op = 3 := by omega

/-- two operations that look at different blocks, or by their kinds don't meet -/
def Apart2 (c : Cfg) (s : St) (x y : Oper) : Prop := indepCls (opCls c x.op) (opCls c y.op) = true ∨ ∀ n, Names s x n → ¬ Names s y n

theorem step_comm (hw : WF s) {oi oj : Oper} {i j : Nat} (hap : oi.apart ops oj = true) (ci : opCls c oi.op < 4) (cj : opCls c oj.op < 4) (H : Apart2 c s oi oj) {si sij : St} (h1 : stepD c z ops asm dk i oi s = some si) (h2 : stepD c z ops asm dk j oj si = some sij) :
    ∃ sj, stepD c z ops asm dk j oj s = some sj ∧ stepD c z ops asm dk i oi sj = some sij := by
  obtain ⟨a1, a2, a3⟩ := Oper.apart_spec hap
  simp only [stepD, Option.bind_eq_some_iff] at h1 h2 ⊢
  obtain ⟨x, hx, px⟩ := h1
  obtain ⟨y, hy, py⟩ := h2
  obtain ⟨fx, dx, rfl⟩ := (put2_iff (by omega)).1 px
  obtain ⟨fy, dy, rfl⟩ := (put2_iff (by omega)).1 py
  -- the block of i, told in s
  have bx : ∀ n b, x.blk = some (n, b) → (opCls c oi.op = 3 ∧ s.m n ≠ none ∧ Names s oi n) ∨ (opCls c oi.op = 2 ∧ oi.dst = some n ∧ s.m n = none ∧ ¬ hidBase ≤ n) := by
    intro n b hb
    rcases del_blk hx hb with h | ⟨h, h'⟩
    · exact .inl h
    · refine .inr ⟨h, h', ?_⟩
      rcases fx n b hb with h'' | h''
      · exact absurd h (wr_cls h'')
      · exact h''
  have memj : opCls c oj.op = 0 ∨ opCls c oj.op = 2 ∨ ∀ u ∈ oj.op.operands, ∀ d, ev s u = some d → ∀ n ∈ d.nm, s.m n = upM s.m x.blk n := by
    rcases H with hcl | H
    · obtain ⟨_, _, c3, c4⟩ := indep_cls hcl
      by_cases h3 : opCls c oi.op = 3
      · have := c3 h3
        rcases opCls_lt cj with h | h | h | h <;> first | exact .inl h | exact .inr (.inl h) | (exfalso; omega)
      · refine .inr (.inr fun u _ d hd n hn => (upM_ne fun k b hb e => ?_).symm)
        subst e
        rcases bx k b hb with h | h
        · exact h3 h.1
        · exact ev_nm hw hd k hn (hid_of h.2.2.2) h.2.2.1
    · refine .inr (.inr fun u hu d hd n hn => (upM_ne fun k b hb e => ?_).symm)
      subst e
      rcases bx k b hb with h | h
      · exact H k h.2.2 ⟨u, hu, d, hd, hn⟩
      · exact ev_nm hw hd k hn (hid_of h.2.2.2) h.2.2.1
  have ej : del c z ops asm dk j oj s = del c z ops asm dk j oj ⟨upT s.t oi.dst x.val, upM s.m x.blk⟩ :=
    del_congr (guard_up a1) (opEval_congr cj (fun u hu => ev_up a1 hu) memj) (dieOf_congr (fun u hu => ev_up a1 hu) memj)
  have by' : ∀ n b, y.blk = some (n, b) → (opCls c oj.op = 3 ∧ s.m n ≠ none ∧ Names s oj n) ∨ (opCls c oj.op = 2 ∧ oj.dst = some n ∧ s.m n = none ∧ ¬ hidBase ≤ n) := by
    intro n b hb
    rcases del_blk (ej.trans hy) hb with h | ⟨h, h'⟩
    · exact .inl h
    · refine .inr ⟨h, h', ?_⟩
      rcases fy n b hb with h'' | h''
      · exact absurd h (wr_cls h'')
      · have h3 : upM s.m x.blk n = none := h''.1
        refine ⟨?_, h''.2⟩
        cases hxb : x.blk with
        | none => rw [hxb] at h3; exact h3
        | some p =>
          rw [hxb] at h3
          simp only [upM, updM_at] at h3
          split at h3
          · cases h3
          · exact h3
  have hne : ∀ n a k b, x.blk = some (n, a) → y.blk = some (k, b) → n ≠ k := by
    intro n a k b hn hk e
    subst e
    rcases bx n a hn with h | h <;> rcases by' n b hk with h' | h'
    · rcases H with hcl | H
      · obtain ⟨_, _, c3, c4⟩ := indep_cls hcl
        have := c3 h.1; omega
      · exact H n h.2.2 h'.2.2
    · exact h.2.1 h'.2.2.1
    · exact h'.2.1 h.2.2.1
    · exact a2 n h.2.1 h'.2.1
  have memi : opCls c oi.op = 0 ∨ opCls c oi.op = 2 ∨ ∀ u ∈ oi.op.operands, ∀ d, ev s u = some d → ∀ n ∈ d.nm, s.m n = upM s.m y.blk n := by
    rcases H with hcl | H
    · obtain ⟨_, _, c3, c4⟩ := indep_cls hcl
      by_cases h3 : opCls c oj.op = 3
      · have h5 := c4 h3
        rcases opCls_lt ci with h | h | h | h <;> first | exact .inl h | exact .inr (.inl h) | (exfalso; have := c3 h; omega) | (exfalso; omega)
      · refine .inr (.inr fun u _ d hd n hn => (upM_ne fun k b hb e => ?_).symm)
        subst e
        rcases by' k b hb with h | h
        · exact h3 h.1
        · exact ev_nm hw hd k hn (hid_of h.2.2.2) h.2.2.1
    · refine .inr (.inr fun u hu d hd n hn => (upM_ne fun k b hb e => ?_).symm)
      subst e
      rcases by' k b hb with h | h
      · exact H k ⟨u, hu, d, hd, hn⟩ h.2.2
      · exact ev_nm hw hd k hn (hid_of h.2.2.2) h.2.2.1
  have ei : del c z ops asm dk i oi s = del c z ops asm dk i oi ⟨upT s.t oj.dst y.val, upM s.m y.blk⟩ :=
    del_congr (guard_up a3) (opEval_congr ci (fun u hu => ev_up a3 hu) memi) (dieOf_congr (fun u hu => ev_up a3 hu) memi)
  refine ⟨⟨upT s.t oj.dst y.val, upM s.m y.blk⟩, ⟨y, ej.trans hy, (put2_iff (by omega)).2 ⟨fun n b hb => ?_, dy, rfl⟩⟩, x, ei.symm.trans hx, (put2_iff (by omega)).2 ⟨fun n b hb => ?_, dx, ?_⟩⟩
  · rcases by' n b hb with h | h
    · exact .inl (cls_wr h.1)
    · exact .inr h.2.2
  · rcases bx n b hb with h | h
    · exact .inl (cls_wr h.1)
    · right
      refine ⟨?_, h.2.2.2⟩
      show upM s.m y.blk n = none
      rw [upM_ne fun k q hq => (hne n b k q hb hq).symm]
      exact h.2.2.1
  · rw [upT_comm a2, upM_comm hne]

theorem killO_t {o : Oper} {v : D} {u : Nat} {d : D} (h : (killO o v s).t u = some d) : s.t u = some d := by
  unfold killO at h
  split at h
  · exact (killS_t.1 h).1
  · exact h

theorem killO_m {o : Oper} {v : D} {u : Nat} : (killO o v s).m u = none ↔ s.m u = none := by
  unfold killO
  split
  · rw [killS_m]; simp
  · rfl

theorem killO_flats {o : Oper} {v : D} {u : Nat} {b : Blk} (hs : ∀ b, s.m u = some b → flats b.cells = true) (h : (killO o v s).m u = some b) : flats b.cells = true := by
  unfold killO at h
  split at h
  · rw [killS_m, Option.map_eq_some_iff] at h
    obtain ⟨b0, h1, rfl⟩ := h
    exact flats_kill (hs b0 h1)
  · exact hs b h

theorem step_wf (hz : ZeroFlat c z) (hw : WF s) {o : Oper} {i : Nat} (h : stepD c z ops asm dk i o s = some s') : WF s' := by
  simp only [stepD, Option.bind_eq_some_iff] at h
  obtain ⟨x, hx, px⟩ := h
  obtain ⟨fx, dx, rfl⟩ := put2_gen.1 px
  have hok : (∀ n ∈ x.val.nm, Has s n ∨ ∃ b, x.blk = some (n, b)) ∧ (∀ n b, x.blk = some (n, b) → flats b.cells = true) := by
    unfold del at hx
    split at hx
    · cases hx
    · split at hx
      · simp only [Option.some.injEq] at hx; subst hx; exact ⟨fun n hn => (by cases hn), fun _ _ hb => (by cases hb)⟩
      · cases hx
    · split at hx
      · simp only [Option.bind_eq_some_iff] at hx
        obtain ⟨e, h1, h2⟩ := hx
        have he := opEval_eff hz hw h1
        split at h2
        · simp only [Option.map_eq_some_iff] at h2
          obtain ⟨d, h3, rfl⟩ := h2
          refine ⟨fun n hn => ?_, he.2⟩
          split at h3
          · unfold valD at h3
            split at h3
            · simp only [Option.some.injEq] at h3; subst h3; exact he.1 n hn
            · split at h3
              · split at h3
                · simp only [Option.some.injEq] at h3; subst h3; cases hn
                · cases h3
              · cases h3
          · simp only [Option.some.injEq] at h3; subst h3; exact he.1 n hn
        · cases h2
      · cases hx
  have keep : ∀ n, Has s n → hidN n = false → upM s.m x.blk n ≠ none := by
    intro n hn hh
    have hn := hn hh
    cases hb : x.blk with
    | none => exact hn
    | some p =>
      simp only [upM, updM_at]
      split
      · simp
      · exact hn
  have nn : ∀ n, (hidN n = false → upM s.m x.blk n ≠ none) → hidN n = false → (killO o x.val ⟨s.t, upM s.m x.blk⟩).m n ≠ none := fun n h hh e => h hh (killO_m.1 e)
  refine ⟨fun t d hd n hn => nn n ?_, fun n b hb => ?_⟩
  · have key : ∀ d', s.t t = some d' → d' = d → hidN n = false → upM s.m x.blk n ≠ none := fun d' h1 h2 => keep n (hw.t t d' h1 n (h2 ▸ hn))
    cases hdst : o.dst with
    | none => simp only [hdst, upT] at hd; exact key d (killO_t (s := ⟨s.t, upM s.m x.blk⟩) hd) rfl
    | some q =>
      simp only [hdst, upT, updT_at] at hd
      split at hd
      · simp only [Option.some.injEq] at hd
        subst hd
        rcases hok.1 n hn with h | ⟨b, h⟩
        · exact keep n h
        · intro _; simp [upM, h, updM_at]
      · exact key d (killO_t (s := ⟨s.t, upM s.m x.blk⟩) hd) rfl
  · refine killO_flats (s := ⟨s.t, upM s.m x.blk⟩) (fun b hb => ?_) hb
    simp only at hb
    cases hbl : x.blk with
    | none => simp only [hbl, upM] at hb; exact hw.m n b hb
    | some p =>
      simp only [hbl, upM, updM_at] at hb
      split at hb
      · simp only [Option.some.injEq] at hb; subst hb; exact hok.2 p.1 p.2 hbl
      · exact hw.m n b hb
end
end Go.Adit

namespace Go.Adit
open Go.RowKit

section
variable {P : Program} {w0 : Base} {N : Nat} {s s' : St} {β : Nat → Option Nat} {a : Act} {w : World} {c : Cfg} {z : Zs} {ops : Array Oper} {asm : List (Nat × Bool)} {dk : Option (Nat × Int)}

theorem Rel.wf (h : Rel w0 N s β a w) : WF s := by
  have nm : ∀ {x : SC} {v : Value}, RepS β (fun b => w0.heap.size ≤ b) w x v → ∀ n ∈ x.names, Has s n := by
    intro x v hr n hn
    cases x <;> simp only [SC.names, List.mem_singleton, List.not_mem_nil] at hn
    case ptr => subst hn; obtain ⟨b, hb, _⟩ := hr; intro hh e; rw [h.dom _ hh e] at hb; cases hb
    case lsl => subst hn; obtain ⟨b, hb, _⟩ := hr; intro hh e; rw [h.dom _ hh e] at hb; cases hb
  have nml : ∀ {l : List SC} {vs : List Value}, RepL β (fun b => w0.heap.size ≤ b) w l vs → ∀ n ∈ l.flatMap SC.names, Has s n := by
    intro l
    induction l with
    | nil => intro vs _ n hn; cases hn
    | cons x l ih =>
      intro vs hr n hn
      cases vs with
      | nil => exact hr.elim
      | cons v vs =>
        simp only [List.flatMap_cons, List.mem_append] at hn
        rcases hn with hn | hn
        · exact nm hr.1 n hn
        · exact ih hr.2 n hn
  refine ⟨fun t d hd n hn => ?_, fun n b hb => ?_⟩
  · obtain ⟨v, _, hr⟩ := h.tm t d hd
    cases d with
    | s x => exact nm hr n hn
    | agg l => obtain ⟨cs, _, hr⟩ := hr; exact nml hr n hn
    | tup l => cases hn
  · obtain ⟨_, _, _, _, _, _, h4⟩ := h.mem n b hb; exact h4

theorem guard_run (hR : Rel w0 N s β a w) {o : Oper} (h : guardOf ops s o = .run) : Region.wanted o (yielded ops a.tmps) = true := by
  unfold guardOf at h
  unfold Region.wanted
  cases hg : o.guard with
  | none => rfl
  | some g =>
    obtain ⟨j, want⟩ := g
    simp only [hg] at h ⊢
    cases hd : (ops[j]?).bind (·.dst) with
    | none => simp [hd] at h
    | some d =>
      simp only [hd] at h
      split at h
      · rename_i b hb
        obtain ⟨v, h1, h2⟩ := hR.tm d _ hb
        have h3 : v = .bool b := h2
        split at h
        · rename_i hw
          simp only [yielded, hd, Option.bind_some, h1, h3]
          simpa using hw
        · cases h
      · cases h
      · cases h

theorem guard_skip (hR : Rel w0 N s β a w) {o : Oper} (h : guardOf ops s o = .skip) : Region.wanted o (yielded ops a.tmps) = false := by
  unfold guardOf at h
  unfold Region.wanted
  cases hg : o.guard with
  | none => simp [hg] at h
  | some g =>
    obtain ⟨j, want⟩ := g
    simp only [hg] at h ⊢
    cases hd : (ops[j]?).bind (·.dst) with
    | none => simp [hd] at h
    | some d =>
      simp only [hd] at h
      split at h
      · rename_i b hb
        obtain ⟨v, h1, h2⟩ := hR.tm d _ hb
        have h3 : v = .bool b := h2
        split at h
        · cases h
        · rename_i hw
          simp only [yielded, hd, Option.bind_some, h1, h3]
          simpa using hw
      · rename_i hb
        obtain ⟨v, h1, h2⟩ := hR.tm d _ hb
        obtain ⟨vs, h3, h4⟩ := h2
        simp only [yielded, hd, Option.bind_some, h1, h3]
        rfl
      · cases h

theorem step_sound (E : Env P c z) (hN : c.n = N) (hR : Rel w0 N s β a w) {i : Nat} {o : Oper} (ho : ops[i]? = some o) (hdk : dkAt dk i = none) (h : stepD c z ops asm dk i o s = some s') {K : Act → World → Prop} {Q : Exit → Act → World → Prop}
    (hK : ∀ β' a' w', Rel w0 N s' β' a' w' → K a' w') : wpOp P ops Q i K a w := by
  unfold wpOp
  simp only [ho]
  simp only [stepD, Option.bind_eq_some_iff] at h
  obtain ⟨x, hx, px⟩ := h
  unfold del at hx
  rw [hdk] at hx
  split at hx
  · cases hx
  · rename_i hg
    simp only [if_true, Option.some.injEq] at hx
    subst hx
    rw [if_neg (by rw [guard_skip hR hg]; simp)]
    simp only [put2, putB, Option.bind_some] at px
    exact hK β _ w ((hR.killO o _).put hN px ⟨[], rfl, trivial⟩)
  · rename_i hg
    rw [if_pos (guard_run hR hg)]
    split at hx
    · rename_i hdd
      simp only [Option.bind_eq_some_iff] at hx
      obtain ⟨e, h1, h2⟩ := hx
      split at h2
      · rename_i hq
        simp only [Option.map_eq_some_iff] at h2
        obtain ⟨d, h3, rfl⟩ := h2
        simp only [put2, Option.bind_eq_some_iff] at px
        obtain ⟨s1, p1, p2⟩ := px
        have hq' : ∀ b ∈ e.req, b = true := by simpa using hq
        refine .inl (op_sound E hR h1 (fun b n hbn => ?_) hq' s1 p1 K Q ?_)
        · rw [hbn] at hdd
          simp only [deadNow] at hdd
          cases hb : b.lb with
          | false => rfl
          | true => rw [hb] at hdd; cases hdd
        rintro v w' ⟨β', r1, r2⟩
        have hap : appName o d = appName o e.val ∧ RepD β' (fun b => w0.heap.size ≤ b) w' d v := by
          split at h3
          · unfold valD at h3
            split at h3
            · simp only [Option.some.injEq] at h3; subst h3; exact ⟨rfl, r2⟩
            · rename_i vv _
              split at h3
              · rename_i b hb
                split at h3
                · rename_i hv
                  simp only [Option.some.injEq] at h3
                  subst h3
                  subst hv
                  rw [hb] at r2
                  refine ⟨?_, r2⟩
                  rw [hb]
                  unfold appName
                  split
                  · split <;> rfl
                  · rfl
                · cases h3
              · cases h3
          · simp only [Option.some.injEq] at h3; subst h3; exact ⟨rfl, r2⟩
        have hko : Adit.killO o d s1 = Adit.killO o e.val s1 := by unfold Adit.killO; rw [hap.1]
        rw [hko] at p2
        exact hK β' _ w' (r1.put hN p2 hap.2)
      · cases h2
    · cases hx

/-- it names no slice that grows -/
def Calm (d : Option D) : Prop := ∀ x n, d = some x → hidN n = true → x.hasG n = false

/-- blocks stay, and keep their sizes -/
def Grow (c : Cfg) (s s' : St) : Prop := (∀ k blk, s.m k = some blk → ∃ blk', s'.m k = some blk' ∧ blk'.cells.length = blk.cells.length) ∧ ∀ t, c.pin t = true → Calm (s.t t) → s'.t t = s.t t

theorem Grow.refl (s : St) : Grow c s s := ⟨fun _ blk h => ⟨blk, h, rfl⟩, fun _ _ _ => rfl⟩
theorem Grow.trans {s s' s'' : St} (h : Grow c s s') (h' : Grow c s' s'') : Grow c s s'' := ⟨fun k blk hk =>
  let ⟨b1, e1, e2⟩ := h.1 k blk hk
  let ⟨b2, e3, e4⟩ := h'.1 k b1 e1
  ⟨b2, e3, e4.trans e2⟩, fun t ht hc => (h'.2 t ht (by rw [h.2 t ht hc]; exact hc)).trans (h.2 t ht hc)⟩

theorem setAt_length : ∀ {l r l' : List SC} (n : Nat), setAt l n r = some l' → l'.length = l.length
  | l, [], l', 0, h => by simp [setAt] at h; rw [h]
  | y :: l, u :: r, l', 0, h => by
    simp only [setAt, Option.map_eq_some_iff] at h
    obtain ⟨l1, h1, rfl⟩ := h
    simp [setAt_length 0 h1]
  | y :: l, r, l', n + 1, h => by
    have h' : (setAt l n r).map (y :: ·) = some l' := by cases r <;> simpa [setAt] using h
    simp only [Option.map_eq_some_iff] at h'
    obtain ⟨l1, h1, rfl⟩ := h'
    simp [setAt_length n h1]
  | [], _ :: _, _, 0, h => by simp [setAt] at h
  | [], r, _, n + 1, h => by cases r <;> simp [setAt] at h

theorem opEval_len {o : Oper} {e : Eff} (he : opEval c z s o = some e) (hw : isWr o.op = true) : ∀ n b, e.blk = some (n, b) → ∃ b0, s.m n = some b0 ∧ b.cells.length = b0.cells.length := by
  intro n b hb
  unfold opEval at he
  cases ho : o.op <;> rw [ho] at hw he <;> simp [isWr] at hw <;> simp only at he
  case store t x y =>
    split at he
    · rename_i nn off cs hx hy
      split at he
      · rename_i blk hm
        split at he
        · simp only [Option.map_eq_some_iff] at he
          obtain ⟨l', h2, rfl⟩ := he
          cases hb
          exact ⟨blk, hm, setAt_length _ h2⟩
        · cases he
      · cases he
    · cases he
  case call k =>
    have pS : ∀ {x : SC}, pureS x = some e → False := fun h => by simp only [pureS, Option.some.injEq] at h; subst h; cases hb
    split at he
    · rename_i f hf
      unfold callE at he
      split at he
      · unfold sameE at he
        split at he
        · split at he <;> first
            | (simp only [Option.some.injEq] at he; subst he; cases hb)
            | cases he
        · cases he
      split at he
      · simp only [Option.bind_eq_some_iff] at he
        obtain ⟨q, hq, l, _, r, _, he⟩ := he
        split at he
        · rename_i h4
          simp only [Bool.and_eq_true] at h4
          simp only [Option.some.injEq] at he; subst he
          simp only [Option.some.injEq, Prod.mk.injEq] at hb
          obtain ⟨rfl, rfl⟩ := hb
          refine ⟨q.2.1, ?_, Nat.eq_of_beq_eq_true h4.2.2⟩
          generalize k.args.toList = al at hq
          cases al with
          | nil => simp [lentOf] at hq
          | cons x r =>
            simp only [lentOf] at hq
            split at hq
            · split at hq
              · rename_i hmm _
                split at hq
                · simp only [Option.some.injEq] at hq; subst hq; exact hmm
                · cases hq
              · cases hq
            · cases hq
        · cases he
      · simp only [Option.bind_eq_some_iff] at he
        obtain ⟨l, _, r, _, he⟩ := he
        split at he
        · simp only [Option.some.injEq] at he; subst he; cases hb
        · cases he
    · split at he
      · split at he <;> first
          | exact (pS he).elim
          | (simp only [Option.bind_eq_some_iff] at he; obtain ⟨_, _, he⟩ := he; exact (pS he).elim)
          | cases he
      · cases he
    all_goals first
      | cases he
      | (unfold appendE at he
         split at he
         · split at he
           · split at he
             · simp only [Option.bind_eq_some_iff] at he
               obtain ⟨_, _, _, _, he⟩ := he
               split at he
               · simp only [Option.some.injEq] at he; subst he; cases hb
               · cases he
             · cases he
           · cases he
         · cases he)
      | (unfold copyE at he
         split at he
         · split at he
           · split at he
             · rename_i hm
               simp only [Option.bind_eq_some_iff, Option.map_eq_some_iff] at he
               obtain ⟨new, _, l', h9, rfl⟩ := he
               simp only [Option.some.injEq, Prod.mk.injEq] at hb
               obtain ⟨rfl, rfl⟩ := hb
               exact ⟨_, hm, setAt_length _ h9⟩
             · cases he
           · cases he
         · cases he)
      | (unfold minmax at he
         split at he
         · split at he
           · split at he
             · split at he
               · exact (pS he).elim
               · cases he
             · cases he
           · cases he
         · cases he)

theorem appName_hid {i : Nat} {o : Oper} {x : Del} (h : del c z ops asm dk i o s = some x) {n : Nat} (hn : appName o x.val = some n) : hidN n = true ∧ x.blk = none := by
  unfold appName at hn
  split at hn
  · rename_i k hk
    split at hn
    · rename_i hf
      split at hn
      · rename_i m e l hv
        simp only [Option.some.injEq] at hn
        subst hn
        unfold del at h
        split at h
        · cases h
        · split at h
          · simp only [Option.some.injEq] at h; subst h; cases hv
          · cases h
        · split at h
          · simp only [Option.bind_eq_some_iff] at h
            obtain ⟨e', h1, h2⟩ := h
            split at h2
            · simp only [Option.map_eq_some_iff] at h2
              obtain ⟨d, h3, rfl⟩ := h2
              simp only at hv
              subst hv
              have hd : dieOf c s o = none := by unfold dieOf; simp only [hk, hf]
              rw [hd] at h3
              simp only [opEval, hk, hf] at h1
              unfold appendE at h1
              split at h1
              · split at h1
                · split at h1
                  · rename_i n' l' zl hb _
                    simp only [Option.bind_eq_some_iff] at hb h1
                    obtain ⟨dx, _, hb⟩ := hb
                    obtain ⟨l2, _, r, _, h1⟩ := h1
                    split at h1
                    · simp only [Option.some.injEq] at h1
                      subst h1
                      refine ⟨?_, rfl⟩
                      simp only at h3
                      unfold valD at h3
                      split at h3
                      · simp only [Option.some.injEq, D.s.injEq, SC.gs.injEq] at h3
                        obtain ⟨rfl, _, _⟩ := h3
                        unfold baseE at hb
                        split at hb
                        · split at hb
                          · split at hb
                            · rename_i hlt
                              simp only [Option.some.injEq, Prod.mk.injEq] at hb
                              obtain ⟨rfl, _⟩ := hb
                              rw [Nat.blt_eq] at hlt
                              unfold hidN
                              rw [Nat.ble_eq_true_of_le (by omega)]
                              simp only [Nat.blt_eq]
                              unfold lentName hidBase
                              omega
                            · cases hb
                          · cases hb
                        · split at hb
                          · rename_i hh
                            simp only [Bool.and_eq_true] at hh
                            simp only [Option.some.injEq, Prod.mk.injEq] at hb
                            obtain ⟨rfl, _⟩ := hb
                            exact hh.2
                          · cases hb
                        · cases hb
                      · cases h3
                    · cases h1
                  · cases h1
                · cases h1
              · cases h1
            · cases h2
          · cases h
      · cases hn
    · cases hn
  · cases hn

theorem killS_calm {n t : Nat} (hn : hidN n = true) {t' : Nat → Option D} {m : Nat → Option Blk} (h : Calm (t' t)) : (killS n ⟨t', m⟩).t t = t' t := by
  simp only [killS]
  cases e : t' t with
  | none => rfl
  | some d =>
    simp only [h d n e hn]

theorem step_grow {i : Nat} {o : Oper} (h : stepD c z ops asm dk i o s = some s') : Grow c s s' := by
  simp only [stepD, Option.bind_eq_some_iff] at h
  obtain ⟨x, hx, px⟩ := h
  obtain ⟨fx, dx, rfl⟩ := put2_gen.1 px
  refine ⟨fun k blk hk => ?_, fun t ht hcalm => ?_⟩
  case refine_2 =>
    have hkill : (killO o x.val ⟨s.t, upM s.m x.blk⟩).t t = s.t t := by
      unfold killO
      split
      · rename_i n hn; exact killS_calm (appName_hid hx hn).1 hcalm
      · rfl
    cases hd : o.dst with
    | none => exact hkill
    | some d =>
      have h1 := dx d hd
      simp only [Cfg.okDst, Bool.and_eq_true, Bool.not_eq_true'] at h1
      simp only [upT, updT_at]
      rw [if_neg (fun e => by rw [e, h1.2] at ht; cases ht)]
      exact hkill
  have hk2 : ∀ b, upM s.m x.blk k = some b → ∃ b', (killO o x.val ⟨s.t, upM s.m x.blk⟩).m k = some b' ∧ b'.cells.length = b.cells.length := by
    intro b hb
    unfold killO
    split
    · exact ⟨⟨b.cells.map _, b.ty⟩, by rw [killS_m]; simp only [hb]; rfl, by simp⟩
    · exact ⟨b, hb, rfl⟩
  cases hb : x.blk with
  | none =>
    obtain ⟨b', e1, e2⟩ := hk2 blk (by rw [hb]; exact hk)
    rw [hb] at e1
    exact ⟨b', e1, e2⟩
  | some p =>
    obtain ⟨n, b⟩ := p
    by_cases hkn : k = n
    · subst hkn
      obtain ⟨b', e1, e2⟩ := hk2 b (by rw [hb]; simp only [upM, updM_at, if_true])
      rw [hb] at e1
      refine ⟨b', e1, e2.trans ?_⟩
      rcases fx k b hb with hw | hf
      · unfold del at hx
        split at hx
        · cases hx
        · split at hx
          · simp only [Option.some.injEq] at hx; subst hx; cases hb
          · cases hx
        · split at hx
          · simp only [Option.bind_eq_some_iff] at hx
            obtain ⟨e, h1, h2⟩ := hx
            split at h2
            · simp only [Option.map_eq_some_iff] at h2
              obtain ⟨d, _, rfl⟩ := h2
              obtain ⟨b0, g1, g2⟩ := opEval_len h1 hw k b hb
              rw [hk] at g1
              simp only [Option.some.injEq] at g1
              rw [g2, g1]
            · cases h2
          · cases hx
      · rw [hf.1] at hk; cases hk
    · obtain ⟨b', e1, e2⟩ := hk2 blk (by rw [hb]; simp only [upM, updM_at, if_neg hkn]; exact hk)
      rw [hb] at e1
      exact ⟨b', e1, e2⟩

/-- an operation that panics -/
theorem step_dead (E : Env P c z) (hR : Rel w0 N s β a w) {i : Nat} {n : Int} {o : Oper} (ho : ops[i]? = some o) (hdk : dkAt dk i = some n) (h : stepD c z ops asm dk i o s = some s') {K : Act → World → Prop} {Q : Exit → Act → World → Prop}
    (hQ : ∀ w', Left w0 N c s β a w' → Q (.panic (errChain n)) a w') : wpOp P ops Q i K a w := by
  unfold wpOp
  simp only [ho]
  simp only [stepD, Option.bind_eq_some_iff] at h
  obtain ⟨x, hx, px⟩ := h
  unfold del at hx
  rw [hdk] at hx
  split at hx
  · cases hx
  · simp at hx
  · rename_i hg
    rw [if_pos (guard_run hR hg)]
    split at hx
    · rename_i hdd
      cases hdo : dieOf c s o with
      | none => rw [hdo] at hdd; cases hdd
      | some p =>
        obtain ⟨b, n'⟩ := p
        rw [hdo] at hdd
        simp only [deadNow] at hdd
        split at hdd
        · rename_i hb
          simp only [Option.some.injEq] at hdd
          subst hdd
          unfold dieOf at hdo
          split at hdo
          · rename_i k hk
            split at hdo
            · rename_i f hf
              exact .inl (die_call E hR hk hf hdo hb hQ)
            · cases hdo
          · cases hdo
        · cases hdd
    · cases hx

def stepAt (c : Cfg) (z : Zs) (ops : Array Oper) (asm : List (Nat × Bool)) (dk : Option (Nat × Int)) (i : Nat) (s : St) : Option St :=
  match ops[i]? with
  | none => some s
  | some o => stepD c z ops asm dk i o s

/-- whatever order is picked, the run goes through and comes to a state of this kind -/
def anyS (c : Cfg) (z : Zs) (ops : Array Oper) (asm : List (Nat × Bool)) (dk : Option (Nat × Int)) (Post : St → Prop) : Nat → Array Bool → St → Prop
  | 0, listed, s => Region.ready .any ops listed = [] ∧ Post s
  | n + 1, listed, s => Region.ready .any ops listed ≠ [] ∧
      ∀ i ∈ Region.ready .any ops listed, ∃ s', stepAt c z ops asm dk i s = some s' ∧ anyS c z ops asm dk Post n (listed.setIfInBounds i true) s'

theorem anyS_sound (E : Env P c z) (hN : c.n = N) {Post : St → Prop} {Q : Exit → Act → World → Prop} (hQ : ∀ s β a w, Post s → Rel w0 N s β a w → Q .normal a w) :
    ∀ (n : Nat) (listed : Array Bool) (s : St) (β : Nat → Option Nat) (a : Act) (w : World), anyS c z ops asm none Post n listed s → Rel w0 N s β a w → wpAny P .any ops Q n listed a w
  | 0, _, _, _, _, _, h, hR => ⟨h.1, hQ _ _ _ _ h.2 hR⟩
  | n + 1, listed, s, β, a, w, h, hR => ⟨fun h0 => absurd h0 h.1, fun i hi => by
      obtain ⟨s', h1, h2⟩ := h.2 i hi
      obtain ⟨_, o, ho, _⟩ := mem_ready.1 hi
      simp only [stepAt, ho] at h1
      exact step_sound E hN hR ho rfl h1 fun β' a' w' hR' => anyS_sound E hN hQ n _ s' β' a' w' h2 hR'⟩

theorem count_set {l : List Bool} {i : Nat} (h : l.getD i true = false) : (l.set i true).count false + 1 = l.count false := by
  induction l generalizing i with
  | nil => simp at h
  | cons x l ih =>
    cases i with
    | zero => simp at h; subst h; simp
    | succ i =>
      simp at h
      have := ih (i := i) (by simpa using h)
      simp only [List.set_cons_succ, List.count_cons]
      omega

/-- one operation panics, in whatever order -/
theorem anyS_dead (E : Env P c z) (hN : c.n = N) {k : Nat} {e : Int} {Post : St → Prop} {Q : Exit → Act → World → Prop} {s0 : St} (hQ : ∀ s β a w w', Grow c s0 s → Rel w0 N s β a w → Left w0 N c s β a w' → Q (.panic (errChain e)) a w') :
    ∀ (n : Nat) (listed : Array Bool) (s : St) (β : Nat → Option Nat) (a : Act) (w : World), listed.toList.count false = n → listed.getD k true = false → Grow c s0 s →
      anyS c z ops asm (some (k, e)) Post n listed s → Rel w0 N s β a w → wpAny P .any ops Q n listed a w
  | 0, listed, s, β, a, w, hc, hk, hg, h, hR => by
    exfalso
    have : false ∈ listed.toList := by
      rw [Array.getD_eq_getD_getElem?] at hk
      cases e : listed[k]? with
      | none => rw [e] at hk; simp at hk
      | some b =>
        rw [e] at hk
        simp at hk
        subst hk
        exact Array.mem_toList_iff.2 (Array.mem_of_getElem? e)
    have := List.count_pos_iff.2 this
    omega
  | n + 1, listed, s, β, a, w, hc, hk, hg, h, hR => ⟨fun h0 => absurd h0 h.1, fun i hi => by
      obtain ⟨s', h1, h2⟩ := h.2 i hi
      obtain ⟨hun, o, ho, _⟩ := mem_ready.1 hi
      simp only [stepAt, ho] at h1
      by_cases hik : i = k
      · subst hik
        exact step_dead E hR ho (n := e) (by simp [dkAt]) h1 fun w' hl => hQ s β a w w' hg hR hl
      · refine step_sound E hN hR ho (by simp [dkAt, hik]) h1 fun β' a' w' hR' => anyS_dead E hN hQ n _ s' β' a' w' ?_ ?_ (hg.trans (step_grow h1)) h2 hR'
        · have := count_set (l := listed.toList) (i := i) (by simpa [Array.getD_eq_getD_getElem?] using hun)
          simp only [Array.toList_setIfInBounds]
          omega
        · rw [getD_set_ne true hik]; exact hk⟩

theorem free_spec {ind : Oper → Oper → Bool} {i : Nat} {oi : Oper} {listed : Array Bool} (hi : ops[i]? = some oi) (h : freeG ind ops listed i = true) (j : Nat) (oj : Oper)
    (hj : ops[j]? = some oj) (hne : j ≠ i) (hun : listed.getD j true = false) (hno : ∀ e ∈ oj.after, Region.binds .any e = true → e.on ≠ i) : ind oi oj = true := by
  simp only [freeG, hi, List.all_eq_true, List.mem_range] at h
  have h1 := h j (Array.getElem?_eq_some_iff.1 hj).1
  have h2 : Nat.beq j i = false := beq_false hne
  simp only [hj, h2, hun, Bool.false_or, Bool.or_eq_true] at h1
  rcases h1 with h1 | h1
  · obtain ⟨e, he, hb⟩ := Array.any_eq_true'.1 h1
    simp only [Bool.and_eq_true] at hb
    exact absurd (beq_of hb.2) (hno e he hb.1)
  · exact h1

/-- two operations that may change places, where both are due -/
def Comm (c : Cfg) (z : Zs) (ops : Array Oper) (asm : List (Nat × Bool)) (dk : Option (Nat × Int)) (Post : St → Prop) (ind : Oper → Oper → Bool) : Prop :=
  ∀ (n : Nat) (listed : Array Bool) (s si sij : St) (i j : Nat) (oi oj : Oper), WF s → ops[i]? = some oi → ops[j]? = some oj → i ≠ j → i ∈ Region.ready .any ops listed → j ∈ Region.ready .any ops listed → ind oi oj = true →
    stepD c z ops asm dk i oi s = some si → stepD c z ops asm dk j oj si = some sij → anyS c z ops asm dk Post n ((listed.setIfInBounds i true).setIfInBounds j true) sij →
    ∃ sj, stepD c z ops asm dk j oj s = some sj ∧ stepD c z ops asm dk i oi sj = some sij

theorem comm_static {Post : St → Prop} : Comm c z ops asm dk Post (indep c ops) := by
  intro n listed s si sij i j oi oj hw _ _ _ _ _ hin h1 h2 _
  simp only [indep, Bool.and_eq_true] at hin
  obtain ⟨b1, b2, _⟩ := indep_cls hin.2
  exact step_comm hw hin.1 b1 b2 (.inl hin.2) h1 h2

theorem anyS_first (hz : ZeroFlat c z) {ind : Oper → Oper → Bool} {Post : St → Prop} (hcm : Comm c z ops asm dk Post ind) {i : Nat} {oi : Oper} (hi : ops[i]? = some oi) :
    ∀ (n : Nat) (listed : Array Bool) (s si : St), WF s →
      (∀ j oj, ops[j]? = some oj → j ≠ i → listed.getD j true = false → (∀ e ∈ oj.after, Region.binds .any e = true → e.on ≠ i) → ind oi oj = true) →
      i ∈ Region.ready .any ops listed → stepD c z ops asm dk i oi s = some si → anyS c z ops asm dk Post n (listed.setIfInBounds i true) si → anyS c z ops asm dk Post (n + 1) listed s := by
  intro n
  induction n with
  | zero =>
    intro listed s si _ _ hr hs H
    refine ⟨fun h => (by rw [h] at hr; cases hr), fun j hj => ?_⟩
    by_cases hji : j = i
    · subst hji; exact ⟨si, by simp only [stepAt, hi]; exact hs, H⟩
    · have := ready_mono hj hji
      rw [H.1] at this
      cases this
  | succ n ih =>
    intro listed s si hw hfree hr hs H
    refine ⟨fun h => (by rw [h] at hr; cases hr), fun j hj => ?_⟩
    by_cases hji : j = i
    · subst hji; exact ⟨si, by simp only [stepAt, hi]; exact hs, H⟩
    · obtain ⟨sij, h1, h2⟩ := H.2 j (ready_mono hj hji)
      obtain ⟨hjun, oj, hoj, hall⟩ := mem_ready.1 hj
      have hnot : ∀ e ∈ oj.after, Region.binds .any e = true → e.on ≠ i := fun e he hb heq => by
        have h1 := hall e he hb
        have h0 := (mem_ready.1 hr).1
        rw [heq] at h1
        rcases Nat.lt_or_ge i listed.size with h' | h'
        · simp [h'] at h0 h1; rw [h0] at h1; cases h1
        · simp [Array.getElem?_eq_none h'] at h1
      simp only [stepAt, hoj] at h1
      obtain ⟨sj, k1, k2⟩ := hcm n listed s si sij i j oi oj hw hi hoj (Ne.symm hji) hr hj (hfree j oj hoj hji hjun hnot) hs h1 h2
      refine ⟨sj, by simp only [stepAt, hoj]; exact k1, ?_⟩
      have hfree' : ∀ k ok, ops[k]? = some ok → k ≠ i → (listed.setIfInBounds j true).getD k true = false →
          (∀ e ∈ ok.after, Region.binds .any e = true → e.on ≠ i) → ind oi ok = true := fun k ok hk hki hun hno => by
        refine hfree k ok hk hki ?_ hno
        by_cases hjk : j = k
        · subst hjk; exact hjun
        · rw [getD_set_ne true hjk] at hun; exact hun
      refine ih (listed.setIfInBounds j true) sj sij (step_wf hz hw k1) hfree' (ready_mono hr (Ne.symm hji)) k2 ?_
      rw [Array.setIfInBounds_comm _ _ hji]
      exact h2

/-- the run in the order of the text -/
def runD (c : Cfg) (z : Zs) (ops : Array Oper) (asm : List (Nat × Bool)) (dk : Option (Nat × Int)) : List Oper → Nat → St → Option St
  | [], _, s => some s
  | o :: l, i, s => (stepD c z ops asm dk i o s).bind fun s' => runD c z ops asm dk l (i + 1) s'

theorem anyS_lex (hz : ZeroFlat c z) {ind : Oper → Oper → Bool} {Post : St → Prop} (hcm : Comm c z ops asm dk Post ind) : ∀ (l : List Oper) (k : Nat) (listed : Array Bool) (s s' : St), WF s → (∀ j, l[j]? = ops[k + j]?) → lexG ind ops l.length k listed = true →
    runD c z ops asm dk l k s = some s' → Post s' → anyS c z ops asm dk Post l.length listed s
  | [], _, _, s, s', _, _, hB, hr, hp => by
    simp only [runD, Option.some.injEq] at hr
    subst hr
    exact ⟨by simpa [lexG] using hB, hp⟩
  | o :: l, k, listed, s, s', hw, hl, hB, hr, hp => by
    have h0 : ops[k]? = some o := by simpa using (hl 0).symm
    simp only [List.length_cons, lexG, Bool.and_eq_true] at hB
    obtain ⟨hrd, hf, hB'⟩ := hB
    simp only [runD, Option.bind_eq_some_iff] at hr
    obtain ⟨s1, h1, h2⟩ := hr
    exact anyS_first hz hcm h0 l.length listed s s1 hw (free_spec h0 hf) (by simpa using hrd) h1
      (anyS_lex hz hcm l (k + 1) _ s1 s' (step_wf hz hw h1) (fun j => by have := hl (j + 1); simpa [Nat.add_assoc, Nat.add_comm 1 j] using this) hB' h2 hp)

/- what shows in the state behind them all -/
theorem filter_one {α : Type} {p : α → Bool} : ∀ {l : List α} {a b : Nat} {x y : α}, (l.filter p).length = 1 → l[a]? = some x → l[b]? = some y → p x = true → p y = true → a = b
  | [], _, _, _, _, h, _, _, _, _ => by simp at h
  | u :: l, a, b, x, y, h, ha, hb, hx, hy => by
    have none : (l.filter p).length = 0 → ∀ (k : Nat) (v : α), l[k]? = some v → p v = true → False := fun h0 k v hk hv => by
      have : v ∈ l.filter p := List.mem_filter.2 ⟨List.mem_of_getElem? hk, hv⟩
      rw [List.length_eq_zero_iff.1 h0] at this
      cases this
    cases hu : p u with
    | true =>
      rw [List.filter_cons_of_pos hu, List.length_cons] at h
      cases a with
      | zero =>
        cases b with
        | zero => rfl
        | succ b => exact (none (by omega) b y (by simpa using hb) hy).elim
      | succ a => exact (none (by omega) a x (by simpa using ha) hx).elim
    | false =>
      rw [List.filter_cons_of_neg (by simp [hu])] at h
      cases a with
      | zero => simp at ha; subst ha; rw [hu] at hx; cases hx
      | succ a =>
        cases b with
        | zero => simp at hb; subst hb; rw [hu] at hy; cases hy
        | succ b => exact congrArg (· + 1) (filter_one (l := l) h (by simpa using ha) (by simpa using hb) hx hy)

theorem optIs_iff {o : Option Nat} {t : Nat} : optIs o t = true ↔ o = some t := by
  cases o with
  | none => simp [optIs]
  | some d => simp [optIs]

theorem writers_one {t a b : Nat} {x y : Oper} (h : writers ops t = 1) (ha : ops[a]? = some x) (hb : ops[b]? = some y) (hx : x.dst = some t) (hy : y.dst = some t) : a = b :=
  filter_one (l := ops.toList) (p := fun o : Oper => optIs o.dst t) h (by simpa using ha) (by simpa using hb) (optIs_iff.2 hx) (optIs_iff.2 hy)

theorem writers_zero {t a : Nat} {x : Oper} (h : writers ops t = 0) (ha : ops[a]? = some x) : x.dst ≠ some t := by
  intro hx
  have : x ∈ ops.toList.filter fun o => optIs o.dst t := List.mem_filter.2 ⟨by simpa using Array.mem_of_getElem? ha, optIs_iff.2 hx⟩
  rw [List.length_eq_zero_iff.1 h] at this
  cases this

theorem step_back {i t : Nat} {o : Oper} {d : D} (h : stepD c z ops asm dk i o s = some s') (ht : o.dst ≠ some t) (hd : s'.t t = some d) : s.t t = some d := by
  simp only [stepD, Option.bind_eq_some_iff] at h
  obtain ⟨x, hx, px⟩ := h
  obtain ⟨_, _, rfl⟩ := put2_gen.1 px
  have : (killO o x.val ⟨s.t, upM s.m x.blk⟩).t t = some d := by
    cases hq : o.dst with
    | none => simpa only [hq, upT] using hd
    | some q =>
      simp only [hq, upT, updT_at] at hd
      rw [if_neg (fun e => ht (by rw [hq, e]))] at hd
      exact hd
  exact killO_t (s := ⟨s.t, upM s.m x.blk⟩) this

/-- a slot that none of those to come writes -/
theorem stable {sE : St} {t : Nat} {d : D} (hd : sE.t t = some d) : ∀ (n : Nat) (listed : Array Bool) (s : St), anyS c z ops asm dk (fun x => x = sE) n listed s →
    (∀ k o, ops[k]? = some o → listed.getD k true = false → o.dst ≠ some t) → s.t t = some d
  | 0, _, s, h, _ => by rw [h.2]; exact hd
  | n + 1, listed, s, h, hno => by
    cases hr : Region.ready .any ops listed with
    | nil => exact absurd hr h.1
    | cons k r =>
      have hk : k ∈ Region.ready .any ops listed := by rw [hr]; simp
      obtain ⟨s', h1, h2⟩ := h.2 k hk
      obtain ⟨hun, o, ho, _⟩ := mem_ready.1 hk
      simp only [stepAt, ho] at h1
      have := stable hd n _ s' h2 (fun j oj hj hl => by
        refine hno j oj hj ?_
        by_cases e : k = j
        · subst e; exact hun
        · rw [getD_set_ne true e] at hl; exact hl)
      exact step_back h1 (hno k o ho hun) this

theorem nmL_eq (d : D) : d.nmL = d.nm := by
  cases d with
  | s x => cases x <;> rfl
  | agg l =>
    simp only [D.nmL, D.nm]
    congr 1
  | tup l => rfl

theorem mem_slots {o : Oper} {t : Nat} : t ∈ opSlots o ↔ Operand.tmp t ∈ o.op.operands := by
  unfold opSlots
  rw [List.mem_filterMap]
  constructor
  · rintro ⟨u, hu, h⟩
    cases u <;> simp at h
    subst h
    simpa using hu
  · intro h; exact ⟨.tmp t, by simpa using h, rfl⟩

theorem names_in {o : Oper} {n : Nat} (h : Names s o n) : n ∈ namesIn s o := by
  obtain ⟨u, hu, d, hd, hn⟩ := h
  cases u with
  | tmp t =>
    unfold namesIn
    rw [List.mem_flatMap]
    refine ⟨t, mem_slots.2 hu, ?_⟩
    have : s.t t = some d := hd
    rw [this]
    simp only [nmL_eq]
    exact hn
  | const v =>
    simp only [ev, Option.map_eq_some_iff] at hd
    obtain ⟨y, h1, rfl⟩ := hd
    simp only [D.nm, ofValue_flat h1] at hn
    cases hn
  | func f => simp only [ev, Option.some.injEq] at hd; subst hd; cases hn
  | global g => simp [ev] at hd

theorem memN_iff {l : List Nat} {n : Nat} : memN l n = true ↔ n ∈ l := by
  induction l with
  | nil => simp [memN]
  | cons a l ih =>
    unfold memN
    split
    · rename_i h; rw [Nat.eq_of_beq_eq_true h]; simp
    · rename_i h
      rw [ih, List.mem_cons]
      constructor
      · exact .inr
      · rintro (e | e)
        · subst e; simp at h
        · exact e

theorem ble_lt {k : Nat} (hk : Nat.ble 4 k = false) : k < 4 := by
  rcases Nat.lt_or_ge k 4 with h | h
  · exact h
  · rw [Nat.ble_eq_true_of_le h] at hk; cases hk

theorem getD_set_same {listed : Array Bool} {k : Nat} (h : (listed.setIfInBounds k true).getD k true = false) : False := by
  rcases Nat.lt_or_ge k listed.size with h' | h'
  · simp [h'] at h
  · simp [Array.getElem?_eq_none h', h'] at h

/-- who writes a slot that a due operation looks at has been -/
theorem unlisted_dst {listed : Array Bool} {i : Nat} {oi : Oper} (hi : i ∈ Region.ready .any ops listed) (hoi : ops[i]? = some oi) (hs : slotsOk ops oi = true) {t : Nat} (ht : t ∈ opSlots oi) {k : Nat} {o : Oper} (ho : ops[k]? = some o) (hk : listed.getD k true = false) : o.dst ≠ some t := by
  have h := List.all_eq_true.1 hs t ht
  split at h
  · rename_i hw; exact writers_zero hw ho
  · rename_i hw
    obtain ⟨_, oi', hoi', hall⟩ := mem_ready.1 hi
    rw [hoi] at hoi'
    cases hoi'
    obtain ⟨e, he, hb⟩ := Array.any_eq_true'.1 h
    simp only [Bool.and_eq_true] at hb
    have hl := hall e he hb.1
    have hd := optIs_iff.1 hb.2
    simp only [Option.bind_eq_some_iff] at hd
    obtain ⟨w, hw1, hw2⟩ := hd
    intro hdst
    have := writers_one hw ho hw1 hdst hw2
    subst this
    rcases Nat.lt_or_ge e.on listed.size with h' | h'
    · simp [h'] at hl hk; rw [hk] at hl; cases hl
    · simp [Array.getElem?_eq_none h'] at hl
  · cases h

theorem guard_kill {n : Nat} {o : Oper} : guardOf ops (killS n s) o = guardOf ops s o := by
  unfold guardOf
  cases o.guard with
  | none => rfl
  | some g =>
    obtain ⟨j, want⟩ := g
    simp only
    cases (ops[j]?).bind (·.dst) with
    | none => rfl
    | some d =>
      simp only [killS]
      cases hd : s.t d with
      | none => rfl
      | some x =>
        simp only
        cases hx : x.hasG n with
        | false => rfl
        | true =>
          simp only
          cases x with
          | s y => cases y <;> first | rfl | (simp [D.hasG, D.hasG1, SC.hasG] at hx)
          | agg l => rfl
          | tup l => cases l with
            | nil => simp [D.hasG] at hx
            | cons => rfl

theorem append_congr {o : Oper} (h5 : opCls c o.op = 5) (hev : ∀ x ∈ o.op.operands, ev s x = ev s' x) (hm : s.m = s'.m) : opEval c z s o = opEval c z s' o ∧ dieOf c s o = none ∧ dieOf c s' o = none := by
  obtain ⟨dst, op, ty, pos, af, g⟩ := o
  cases op <;> simp [opCls] at h5
  case call k =>
    have hf : k.callee = .builtin .append := by
      split at h5
      · split at h5 <;> simp at h5
      · simp at h5
      · assumption
      · simp at h5
    simp only [Op.operands] at hev
    have hargs : ∀ x ∈ k.args.toList, x ∈ k.operands := fun x hx => by simp [Call.operands]; right; simpa using hx
    refine ⟨?_, by simp only [dieOf, hf], by simp only [dieOf, hf]⟩
    simp only [opEval, hf]
    unfold appendE
    split
    · rename_i x y t t' hl ht
      rw [hev x (hargs x (by rw [hl]; simp)), hev y (hargs y (by rw [hl]; simp))]
      have : ∀ e b t kind, newsE c s e b t kind = newsE c s' e b t kind := by
        intro e b t kind
        funext d
        unfold newsE
        rw [hm]
      simp only [this]
    · rfl

theorem upT_kill {n : Nat} {t : Nat → Option D} {m : Nat → Option Blk} {o : Option Nat} {v : D} (h : o ≠ none → v.hasG n = false) : (killS n ⟨upT t o v, m⟩).t = upT (killS n ⟨t, m⟩).t o v := by
  cases o with
  | none => rfl
  | some q =>
    funext u
    simp only [killS, upT, updT_at]
    by_cases e : u = q
    · subst e; simp only [if_true, h (by simp)]
    · simp only [if_neg e]

theorem kill_m {n : Nat} {t t' : Nat → Option D} {m : Nat → Option Blk} : (killS n ⟨t, m⟩).m = (killS n ⟨t', m⟩).m := rfl

/-- an append and an operation that looks at its operands alone -/
theorem comm_app {oi oj : Oper} {i j : Nat} (hap : oi.apart ops oj = true) (ci : opCls c oi.op = 5) (cj : opCls c oj.op = 0) {si sij : St} (h1 : stepD c z ops asm dk i oi s = some si) (h2 : stepD c z ops asm dk j oj si = some sij)
    {n q : Nat} {dq : D} (hq : oi.dst = some q) (hq2 : si.t q = some dq) (hn : appName oi dq = some n)
    (hslot : ∀ t ∈ opSlots oj, ∃ d, si.t t = some d ∧ s.t t = some d) (hdst : ∀ q' d, oj.dst = some q' → sij.t q' = some d → d.hasG n = false) :
    ∃ sj, stepD c z ops asm dk j oj s = some sj ∧ stepD c z ops asm dk i oi sj = some sij := by
  obtain ⟨a1, a2, a3⟩ := Oper.apart_spec hap
  simp only [stepD, Option.bind_eq_some_iff] at h1 h2 ⊢
  obtain ⟨x, hx, px⟩ := h1
  obtain ⟨y, hy, py⟩ := h2
  obtain ⟨fx, dx, hsi⟩ := put2_gen.1 px
  obtain ⟨fy, dy, hsij⟩ := (put2_iff (by omega)).1 py
  have hxv : x.val = dq := by
    rw [hsi, hq] at hq2
    simp only [upT, updT_at, if_true, Option.some.injEq] at hq2
    exact hq2
  have hnx : appName oi x.val = some n := by rw [hxv]; exact hn
  have hxb := (appName_hid hx hnx).2
  have hko : ∀ s0 : St, killO oi x.val s0 = killS n s0 := fun s0 => by unfold killO; rw [hnx]
  rw [hko, hxb] at hsi
  have hyb : y.blk = none := by
    cases hb : y.blk with
    | none => rfl
    | some p => rcases del_blk hy hb with h | h <;> omega
  rw [hyb] at hsij
  have hyv : oj.dst ≠ none → y.val.hasG n = false := fun h => by
    cases hd : oj.dst with
    | none => exact absurd hd h
    | some q' =>
      refine hdst q' y.val hd ?_
      rw [hsij, hd]
      simp [upT, updT_at]
  have evj : ∀ u ∈ oj.op.operands, ev s u = ev si u := by
    intro u hu
    cases u with
    | tmp t =>
      obtain ⟨d, e1, e2⟩ := hslot t (mem_slots.2 hu)
      show s.t t = si.t t
      rw [e1, e2]
    | const v => rfl
    | func f => rfl
    | global g => rfl
  have gj : guardOf ops s oj = guardOf ops si oj := by
    have e1 := guard_up (s := killS n s) (ops := ops) (o := oj) (dst := oi.dst) (v := x.val) (m := (killS n s).m) a1
    rw [guard_kill] at e1
    rw [e1, hsi]; rfl
  have ej : del c z ops asm dk j oj s = del c z ops asm dk j oj si := del_congr gj (opEval_congr (by omega) evj (.inl cj)) (dieOf_congr evj (.inl cj))
  have evi : ∀ u ∈ oi.op.operands, ev s u = ev (⟨upT s.t oj.dst y.val, s.m⟩ : St) u := fun u hu => ev_up a3 hu
  obtain ⟨p1, p2, p3⟩ := append_congr (z := z) ci evi rfl
  have ei : del c z ops asm dk i oi s = del c z ops asm dk i oi ⟨upT s.t oj.dst y.val, s.m⟩ := del_congr (guard_up a3) p1 (p2.trans p3.symm)
  refine ⟨⟨upT s.t oj.dst y.val, s.m⟩, ⟨y, ej.trans hy, (put2_iff (by omega)).2 ⟨fun k b hb => (by rw [hyb] at hb; cases hb), dy, by rw [hyb]; rfl⟩⟩, x, ei.symm.trans hx, put2_gen.2 ⟨fun k b hb => (by rw [hxb] at hb; cases hb), dx, ?_⟩⟩
  rw [hko, hxb, hsij, hsi]
  simp only [upM]
  rw [upT_kill hyv, upT_comm a2]
  rfl

theorem comm_app' {oi oj : Oper} {i j : Nat} (hap : oi.apart ops oj = true) (ci : opCls c oi.op = 0) (cj : opCls c oj.op = 5) {si sij : St} (h1 : stepD c z ops asm dk i oi s = some si) (h2 : stepD c z ops asm dk j oj si = some sij)
    {n q : Nat} {dq : D} (hq : oj.dst = some q) (hq2 : sij.t q = some dq) (hn : appName oj dq = some n)
    (hslot : ∀ t ∈ opSlots oi, ∃ d, sij.t t = some d ∧ s.t t = some d) (hdst : ∀ q' d, oi.dst = some q' → si.t q' = some d → d.hasG n = false) :
    ∃ sj, stepD c z ops asm dk j oj s = some sj ∧ stepD c z ops asm dk i oi sj = some sij := by
  obtain ⟨a1, a2, a3⟩ := Oper.apart_spec hap
  simp only [stepD, Option.bind_eq_some_iff] at h1 h2 ⊢
  obtain ⟨x, hx, px⟩ := h1
  obtain ⟨y, hy, py⟩ := h2
  obtain ⟨fx, dx, hsi⟩ := (put2_iff (by omega)).1 px
  obtain ⟨fy, dy, hsij⟩ := put2_gen.1 py
  have hyv : y.val = dq := by
    rw [hsij, hq] at hq2
    simp only [upT, updT_at, if_true, Option.some.injEq] at hq2
    exact hq2
  have hny : appName oj y.val = some n := by rw [hyv]; exact hn
  have hyb := (appName_hid hy hny).2
  have hko : ∀ s0 : St, killO oj y.val s0 = killS n s0 := fun s0 => by unfold killO; rw [hny]
  rw [hko, hyb] at hsij
  have hxb : x.blk = none := by
    cases hb : x.blk with
    | none => rfl
    | some p => rcases del_blk hx hb with h | h <;> omega
  rw [hxb] at hsi
  have hxv : oi.dst ≠ none → x.val.hasG n = false := fun h => by
    cases hd : oi.dst with
    | none => exact absurd hd h
    | some q' =>
      refine hdst q' x.val hd ?_
      rw [hsi, hd]
      simp [upT, updT_at]
  have evj : ∀ u ∈ oj.op.operands, ev s u = ev si u := fun u hu => by rw [hsi]; exact ev_up a1 hu
  obtain ⟨p1, p2, p3⟩ := append_congr (z := z) cj evj (by rw [hsi]; rfl)
  have gj : guardOf ops s oj = guardOf ops si oj := by rw [hsi]; exact guard_up a1
  have ej : del c z ops asm dk j oj s = del c z ops asm dk j oj si := del_congr gj p1 (p2.trans p3.symm)
  have evi : ∀ u ∈ oi.op.operands, ev s u = ev (⟨upT (killS n s).t oj.dst y.val, (killS n s).m⟩ : St) u := by
    intro u hu
    cases u with
    | tmp t =>
      obtain ⟨d, e1, e2⟩ := hslot t (mem_slots.2 hu)
      have hqt : t ≠ q := fun e => a3 q hq (by rw [← e]; exact mem_looks hu)
      show s.t t = upT (killS n s).t oj.dst y.val t
      rw [hq]
      simp only [upT, updT_at, if_neg hqt]
      rw [e2]
      symm
      rw [killS_t]
      refine ⟨e2, ?_⟩
      rw [hsij, hq] at e1
      simp only [upT, updT_at, if_neg hqt] at e1
      exact (killS_t.1 e1).2
    | const v => rfl
    | func f => rfl
    | global g => rfl
  have gi : guardOf ops s oi = guardOf ops ⟨upT (killS n s).t oj.dst y.val, (killS n s).m⟩ oi := by
    have e1 := guard_up (s := killS n s) (ops := ops) (o := oi) (dst := oj.dst) (v := y.val) (m := (killS n s).m) a3
    rw [guard_kill] at e1
    exact e1
  have ei : del c z ops asm dk i oi s = del c z ops asm dk i oi ⟨upT (killS n s).t oj.dst y.val, (killS n s).m⟩ := del_congr gi (opEval_congr (by omega) evi (.inl ci)) (dieOf_congr evi (.inl ci))
  refine ⟨⟨upT (killS n s).t oj.dst y.val, (killS n s).m⟩, ⟨y, ej.trans hy, put2_gen.2 ⟨fun k b hb => (by rw [hyb] at hb; cases hb), dy, by rw [hko, hyb]; rfl⟩⟩, x, ei.symm.trans hx, (put2_iff (by omega)).2 ⟨fun k b hb => (by rw [hxb] at hb; cases hb), dx, ?_⟩⟩
  rw [hxb, hsij, hsi]
  simp only [upM]
  rw [upT_kill hxv, upT_comm a2]
  rfl

theorem comm_dyn {sE : St} : Comm c z ops asm dk (fun x => x = sE) (indep2 c ops sE) := by
  intro n listed s si sij i j oi oj hw hoi hoj hij hi hj hin h1 h2 H
  simp only [indep2, Bool.and_eq_true, Bool.or_eq_true] at hin
  obtain ⟨hap, hin⟩ := hin
  rcases hin with hcl | hsep
  · obtain ⟨b1, b2, _⟩ := indep_cls hcl
    exact step_comm hw hap b1 b2 (.inl hcl) h1 h2
  · simp only [sepD, Bool.and_eq_true, Bool.or_eq_true] at hsep
    obtain ⟨a1, a2, a3⟩ := Oper.apart_spec hap
    have hiun := (mem_ready.1 hi).1
    have hjun := (mem_ready.1 hj).1
    have lst : ∀ k, ((listed.setIfInBounds i true).setIfInBounds j true).getD k true = false → k ≠ i ∧ k ≠ j ∧ listed.getD k true = false := by
      intro k hk
      have e2 : k ≠ j := fun e => by subst e; exact getD_set_same hk
      rw [getD_set_ne true (Ne.symm e2)] at hk
      have e1 : k ≠ i := fun e => by subst e; exact getD_set_same hk
      rw [getD_set_ne true (Ne.symm e1)] at hk
      exact ⟨e1, e2, hk⟩
    -- the slots that they look at
    have slot : ∀ (o : Oper), (o = oi ∨ o = oj) → slotsOk ops o = true → slotsAre sE o = true → ∀ t ∈ opSlots o, ∃ d, sE.t t = some d ∧ sij.t t = some d ∧ si.t t = some d ∧ s.t t = some d := by
      intro o ho so sa t ht
      have hun : ∀ k o', ops[k]? = some o' → listed.getD k true = false → o'.dst ≠ some t := by
        intro k o' ho' hk
        rcases ho with rfl | rfl
        · exact unlisted_dst hi hoi so ht ho' hk
        · exact unlisted_dst hj hoj so ht ho' hk
      have hal : (sE.t t).isSome = true := List.all_eq_true.1 sa t ht
      obtain ⟨d, hd⟩ := Option.isSome_iff_exists.1 hal
      have g1 := stable hd n _ sij H fun k o' ho' hk => hun k o' ho' (lst k hk).2.2
      have g2 := step_back h2 (hun j oj hoj hjun) g1
      exact ⟨d, hd, g1, g2, step_back h1 (hun i oi hoi hiun) g2⟩
    have names : ∀ (o : Oper), (o = oi ∨ o = oj) → slotsOk ops o = true → slotsAre sE o = true → ∀ m, Names s o m → m ∈ namesIn sE o := by
      intro o ho so sa m hm
      have := names_in hm
      unfold namesIn at this ⊢
      rw [List.mem_flatMap] at this ⊢
      obtain ⟨t, ht, hmt⟩ := this
      obtain ⟨d, e1, _, _, e2⟩ := slot o ho so sa t ht
      rw [e2] at hmt
      exact ⟨t, ht, by rw [e1]; exact hmt⟩
    -- a slot that one of them alone writes
    have dst : ∀ (k : Nat) (o : Oper), (k = i ∧ o = oi ∨ k = j ∧ o = oj) → ∀ q, o.dst = some q → writers ops q = 1 → ∀ d, sE.t q = some d → sij.t q = some d := by
      intro k o hk q hq hw d hd
      refine stable hd n _ sij H fun k' o' ho' hk' e => ?_
      obtain ⟨e1, e2, _⟩ := lst k' hk'
      rcases hk with ⟨rfl, rfl⟩ | ⟨rfl, rfl⟩
      · exact e1 (writers_one hw ho' hoi e hq)
      · exact e2 (writers_one hw ho' hoj e hq)
    rcases hsep with (⟨⟨so1, sa1⟩, ⟨so2, sa2⟩, b1, b2, hdis⟩ | ⟨⟨so2, sa2⟩, b1, b2, hb⟩) | ⟨⟨so1, sa1⟩, b1, b2, hb⟩
    · simp only [Bool.not_eq_true'] at b1 b2
      refine step_comm hw hap (ble_lt b1) (ble_lt b2) (.inr fun m hm hm' => ?_) h1 h2
      have := List.all_eq_true.1 hdis m (names oi (.inl rfl) so1 sa1 m hm)
      rw [memN_iff.2 (names oj (.inr rfl) so2 sa2 m hm')] at this
      cases this
    · -- i appends
      split at hb
      · rename_i m hm
        unfold appDst at hm
        split at hm
        · rename_i q hq
          split at hm
          · rename_i hw1
            simp only [Option.bind_eq_some_iff] at hm
            obtain ⟨dq, g1, g2⟩ := hm
            have g3 := dst i oi (.inl ⟨rfl, rfl⟩) q hq (Nat.eq_of_beq_eq_true hw1) dq g1
            have g4 := step_back h2 (fun e => a2 q hq e) g3
            refine comm_app hap (Nat.eq_of_beq_eq_true b1) (Nat.eq_of_beq_eq_true b2) h1 h2 hq g4 g2 (fun t ht => ?_) (fun q' d hq' hd => ?_)
            · obtain ⟨d, _, _, e2, e3⟩ := slot oj (.inr rfl) so2 sa2 t ht
              exact ⟨d, e2, e3⟩
            · unfold dstOk at hb
              rw [hq'] at hb
              simp only [Bool.and_eq_true] at hb
              obtain ⟨hw2, hb⟩ := hb
              split at hb
              · rename_i d' hd'
                have := dst j oj (.inr ⟨rfl, rfl⟩) q' hq' (Nat.eq_of_beq_eq_true hw2) d' hd'
                rw [hd] at this
                simp only [Option.some.injEq] at this
                subst this
                simpa using hb
              · cases hb
          · cases hm
        · cases hm
      · cases hb
    · -- j appends
      split at hb
      · rename_i m hm
        unfold appDst at hm
        split at hm
        · rename_i q hq
          split at hm
          · rename_i hw1
            simp only [Option.bind_eq_some_iff] at hm
            obtain ⟨dq, g1, g2⟩ := hm
            have g3 := dst j oj (.inr ⟨rfl, rfl⟩) q hq (Nat.eq_of_beq_eq_true hw1) dq g1
            refine comm_app' hap (Nat.eq_of_beq_eq_true b2) (Nat.eq_of_beq_eq_true b1) h1 h2 hq g3 g2 (fun t ht => ?_) (fun q' d hq' hd => ?_)
            · obtain ⟨d, _, e1, _, e3⟩ := slot oi (.inl rfl) so1 sa1 t ht
              exact ⟨d, e1, e3⟩
            · unfold dstOk at hb
              rw [hq'] at hb
              simp only [Bool.and_eq_true] at hb
              obtain ⟨hw2, hb⟩ := hb
              split at hb
              · rename_i d' hd'
                have g5 := dst i oi (.inl ⟨rfl, rfl⟩) q' hq' (Nat.eq_of_beq_eq_true hw2) d' hd'
                have g6 := step_back h2 (fun e => a2 q' hq' e) g5
                rw [hd] at g6
                simp only [Option.some.injEq] at g6
                subst g6
                simpa using hb
              · cases hb
          · cases hm
        · cases hm
      · cases hb

theorem region_text (E : Env P c z) (hN : c.n = N) {Q : Exit → Act → World → Prop} : ∀ (l : List Oper) (k : Nat) (s s' : St) (β : Nat → Option Nat) (a : Act) (w : World), (∀ j, l[j]? = ops[k + j]?) →
    runD c z ops asm none l k s = some s' → Rel w0 N s β a w → (∀ β' a' w', Rel w0 N s' β' a' w' → Q .normal a' w') → wpOps P ops Q (List.range' k l.length) a w
  | [], _, s, s', β, a, w, _, hr, hR, hQ => by
    simp only [runD, Option.some.injEq] at hr
    subst hr
    exact hQ β a w hR
  | o :: l, k, s, s', β, a, w, hl, hr, hR, hQ => by
    have h0 : ops[k]? = some o := by simpa using (hl 0).symm
    simp only [runD, Option.bind_eq_some_iff] at hr
    obtain ⟨s1, h1, h2⟩ := hr
    simp only [List.length_cons, List.range'_succ, wpOps_cons]
    exact step_sound E hN hR h0 rfl h1 fun β' a' w' hR' =>
      region_text E hN l (k + 1) s1 s' β' a' w' (fun j => by have := hl (j + 1); simpa [Nat.add_assoc, Nat.add_comm 1 j] using this) h2 hR' hQ

theorem text_dead (E : Env P c z) (hN : c.n = N) {kk : Nat} {e : Int} {Q : Exit → Act → World → Prop} {s0 : St} (hQ : ∀ s β a w w', Grow c s0 s → Rel w0 N s β a w → Left w0 N c s β a w' → Q (.panic (errChain e)) a w') :
    ∀ (l : List Oper) (k : Nat) (s s' : St) (β : Nat → Option Nat) (a : Act) (w : World), (∀ j, l[j]? = ops[k + j]?) → k ≤ kk → kk < k + l.length → Grow c s0 s →
    runD c z ops asm (some (kk, e)) l k s = some s' → Rel w0 N s β a w → wpOps P ops Q (List.range' k l.length) a w
  | [], k, s, s', β, a, w, _, h1, h2, _, _, _ => by simp at h2; omega
  | o :: l, k, s, s', β, a, w, hl, hk1, hk2, hg, hr, hR => by
    have h0 : ops[k]? = some o := by simpa using (hl 0).symm
    simp only [runD, Option.bind_eq_some_iff] at hr
    obtain ⟨s1, h1, h2⟩ := hr
    simp only [List.length_cons, List.range'_succ, wpOps_cons]
    by_cases hik : k = kk
    · subst hik
      exact step_dead E hR h0 (n := e) (by simp [dkAt]) h1 fun w' hl => hQ s β a w w' hg hR hl
    · exact step_sound E hN hR h0 (by simp [dkAt, hik]) h1 fun β' a' w' hR' =>
        text_dead E hN hQ l (k + 1) s1 s' β' a' w' (fun j => by have := hl (j + 1); simpa [Nat.add_assoc, Nat.add_comm 1 j] using this) (by omega) (by simp at hk2; omega) (hg.trans (step_grow h1)) h2 hR'

theorem Rel.drew (h : Rel w0 N s β a w) : Rel w0 N s β a { w with drawn := w.drawn + 1 } :=
  h.below ⟨rfl, rfl, rfl, Nat.le_refl _, fun _ _ => rfl⟩

theorem region_sound (E : Env P c z) (hz : ZeroFlat c z) (hN : c.n = N) {Q : Exit → Act → World → Prop} {id : Nat} {draw : Bool} (hd : draw = true → drawOk c ops = true ∨ drawOk2 c ops s' = true) (hr : runD c z ops asm none ops.toList 0 s = some s')
    (hR : Rel w0 N s β a w) (hQ : ∀ β' a' w', Rel w0 N s' β' a' w' → Q .normal a' w') : (Code.region id ops draw).wp P Q a w := by
  cases draw with
  | false =>
    refine wp_region ?_
    rw [List.range_eq_range', ← Array.length_toList]
    exact region_text E hN ops.toList 0 s s' β a w (by simp) hr hR hQ
  | true =>
    refine wp_region_any E.mixed (anyS_sound (asm := asm) E hN (Post := fun x => x = s') (fun x β a w e hR => by subst e; exact hQ β a w hR) _ _ s β a _ ?_ hR.drew)
    rcases hd rfl with hd | hd
    · have := anyS_lex (dk := none) (Post := fun x => x = s') hz comm_static ops.toList 0 (Array.replicate ops.size false) s s' hR.wf (by simp) (by simpa [drawOk] using hd) hr rfl
      simpa using this
    · have := anyS_lex (dk := none) (Post := fun x => x = s') hz comm_dyn ops.toList 0 (Array.replicate ops.size false) s s' hR.wf (by simp) (by simpa [drawOk2] using hd) hr rfl
      simpa using this

theorem region_dead (E : Env P c z) (hz : ZeroFlat c z) (hN : c.n = N) {Q : Exit → Act → World → Prop} {id : Nat} {draw : Bool} (hd : draw = true → drawOk c ops = true ∨ drawOk2 c ops s' = true) {k : Nat} {e : Int} (hk : k < ops.size)
    (hr : runD c z ops asm (some (k, e)) ops.toList 0 s = some s') (hR : Rel w0 N s β a w)
    (hQ : ∀ s1 β a w w', Grow c s s1 → Rel w0 N s1 β a w → Left w0 N c s1 β a w' → Q (.panic (errChain e)) a w') : (Code.region id ops draw).wp P Q a w := by
  cases draw with
  | false =>
    refine wp_region ?_
    rw [List.range_eq_range', ← Array.length_toList]
    exact text_dead E hN hQ ops.toList 0 s s' β a w (by simp) (Nat.zero_le _) (by simpa using hk) (Grow.refl _) hr hR
  | true =>
    refine wp_region_any E.mixed (anyS_dead (k := k) (asm := asm) (Post := fun x => x = s') (s0 := s) E hN hQ _ _ s β a _ (by simp) (by simp [hk]) (Grow.refl _) ?_ hR.drew)
    rcases hd rfl with hd | hd
    · have := anyS_lex (dk := some (k, e)) (Post := fun x => x = s') hz comm_static ops.toList 0 (Array.replicate ops.size false) s s' hR.wf (by simp) (by simpa [drawOk] using hd) hr rfl
      simpa using this
    · have := anyS_lex (dk := some (k, e)) (Post := fun x => x = s') hz comm_dyn ops.toList 0 (Array.replicate ops.size false) s s' hR.wf (by simp) (by simpa [drawOk2] using hd) hr rfl
      simpa using this
end
end Go.Adit

namespace Go.Adit
open Go.RowKit

section
variable {P : Program} {w0 : Base} {N : Nat} {s s' : St} {β : Nat → Option Nat} {a : Act} {w : World} {c : Cfg} {z : Zs} {ops : Array Oper} {asm : List (Nat × Bool)}

/-- what is assumed is so, of one operation -/
def AsmAt (c : Cfg) (z : Zs) (ops : Array Oper) (asm : List (Nat × Bool)) (o : Oper) (i : Nat) (s : St) : Prop :=
  (∀ e v b, guardOf ops s o = .run → dieOf c s o = none → opEval c z s o = some e → asmAt asm i = some v → e.val = .s (.bool (.sym b)) → b = v) ∧
    (∀ b n v, guardOf ops s o = .run → dieOf c s o = some (.sym b, n) → asmAt asm i = some v → b = v)

/-- what is assumed is so, along the run -/
def AsmOK (c : Cfg) (z : Zs) (ops : Array Oper) (asm : List (Nat × Bool)) : List Oper → Nat → St → Prop
  | [], _, _ => True
  | o :: l, i, s => AsmAt c z ops asm o i s ∧
      (∀ s1 q, step1 c z ops asm i o s = .ok s1 q → AsmOK c z ops asm l (i + 1) s1) ∧ ∀ n s1 q, step1 c z ops asm i o s = .dead n s1 q → AsmOK c z ops asm l (i + 1) s1

theorem asmAt_below : ∀ {asm : List (Nat × Bool)} {i j : Nat}, asmBelow asm i = true → i ≤ j → asmAt asm j = none
  | [], _, _, _, _ => rfl
  | (x, v) :: l, i, j, h, hij => by
    unfold asmBelow at h
    split at h
    · rename_i hx
      have := blt_of hx
      unfold asmAt
      rw [beq_false (show ¬ x = j by omega)]
      exact asmAt_below h hij
    · cases h

theorem asmOK_none : ∀ (l : List Oper) (i : Nat) (s : St), (∀ j, i ≤ j → asmAt asm j = none) → AsmOK c z ops asm l i s
  | [], _, _, _ => trivial
  | o :: l, i, s, h => ⟨⟨fun e v b _ _ _ hv => (by rw [h i (Nat.le_refl _)] at hv; cases hv), fun b n v _ _ hv => (by rw [h i (Nat.le_refl _)] at hv; cases hv)⟩,
      fun s1 q _ => asmOK_none l (i + 1) s1 fun j hj => h j (by omega), fun n s1 q _ => asmOK_none l (i + 1) s1 fun j hj => h j (by omega)⟩

theorem okOr_ok {i : Nat} {x : Option St} {r q : List Bool} {s1 : St} (h : okOr i x r = .ok s1 q) : x = some s1 ∧ r = q := by
  cases x with
  | none => simp [okOr] at h
  | some y => simp only [okOr, Out.ok.injEq] at h; exact ⟨by rw [h.1], h.2⟩

theorem okOr_split {i j : Nat} {x : Option St} {r : List Bool} {b : Bool} (h : okOr i x r = .split j b) : False := by
  cases x <;> simp [okOr] at h

theorem okOr_dead {i : Nat} {x : Option St} {r q : List Bool} {n : Int} {s1 : St} (h : okOr i x r = .dead n s1 q) : False := by
  cases x <;> simp [okOr] at h

theorem dying_no {i : Nat} {b : BV} {n : Int} (h : dying asm i (some (b, n)) = .no) (ha : ∀ x, b = .sym x → ∀ v, asmAt asm i = some v → x = v) : b.lb = false := by
  cases b with
  | lit v => cases v with
    | false => rfl
    | true => simp [dying] at h
  | sym x =>
    simp only [dying] at h
    split at h
    · cases h
    · rename_i hv; exact ha x rfl _ hv
    · cases h

theorem dying_yes {i : Nat} {b : BV} {n m : Int} (h : dying asm i (some (b, n)) = .yes m) (ha : ∀ x, b = .sym x → ∀ v, asmAt asm i = some v → x = v) : b.lb = true ∧ m = n := by
  cases b with
  | lit v => cases v with
    | false => simp [dying] at h
    | true => simp [dying] at h; exact ⟨rfl, h.symm⟩
  | sym x =>
    simp only [dying] at h
    split at h
    · rename_i hv; simp only [Dy.yes.injEq] at h; exact ⟨ha x rfl _ hv, h.symm⟩
    · cases h
    · cases h

theorem step1_ok {dk : Option (Nat × Int)} {i : Nat} (hdk : dkAt dk i = none) {o : Oper} {s1 : St} {q : List Bool} (h : step1 c z ops asm i o s = .ok s1 q) (hq : ∀ b ∈ q, b = true)
    (hv : AsmAt c z ops asm o i s) : stepD c z ops asm dk i o s = some s1 := by
  unfold step1 at h
  unfold stepD del
  rw [hdk]
  split at h
  · cases h
  · rename_i hg
    obtain ⟨h1, _⟩ := okOr_ok h
    have hap : appName o (.tup []) = none := by
      unfold appName
      split
      · split <;> rfl
      · rfl
    simp only [if_true, Option.bind_some, put2, putB, killO_none hap, h1]
  · rename_i hg
    split at h
    · rename_i dn hdo
      split at h
      · split at h
        · cases h
        · split at h <;> cases h
      · cases h
      · rename_i hno
        split at h
        · cases h
        · rename_i e he
          obtain ⟨b, n⟩ := dn
          have hb := dying_no hno fun x hx v hav => hv.2 x n v hg (by rw [hdo, hx]) hav
          obtain ⟨h1, rfl⟩ := okOr_ok h
          have hall : e.req.all id = true := by simpa using hq
          have hdn : deadNow (dieOf c s o) = none := by rw [hdo]; simp only [deadNow, hb]
          rw [if_pos hdn]
          simp only [he, Option.bind_some, if_pos hall, hdo, Option.map_some, h1]
    · rename_i hdo
      have hdn : deadNow (dieOf c s o) = none := by rw [hdo]; rfl
      rw [if_pos hdn]
      split at h
      · cases h
      · rename_i e he
        simp only [he, Option.bind_some, hdo]
        split at h
        · rename_i v hav
          split at h
          · rename_i d hd
            obtain ⟨h1, rfl⟩ := okOr_ok h
            have hall : e.req.all id = true := by simpa using hq
            rw [if_pos hall]
            have : valD asm i e.val = some d := by
              unfold assume at hd
              unfold valD
              split at hd
              · rename_i b hb
                simp only [Option.some.injEq] at hd
                have hbv := hv.1 e v b hg hdo he hav hb
                simp only [hav]
                rw [if_pos hbv]
                exact congrArg some hd
              · cases hd
            simp only [this, Option.map_some, Option.bind_some, h1]
          · cases h
        · rename_i hav
          have h' : okOr i (put2 c s o e.val e.blk) e.req = .ok s1 q := by
            split at h
            · cases h
            · exact h
          obtain ⟨h1, rfl⟩ := okOr_ok h'
          have hall : e.req.all id = true := by simpa using hq
          rw [if_pos hall]
          have : valD asm i e.val = some e.val := by unfold valD; simp only [hav]
          simp only [this, Option.map_some, Option.bind_some, h1]

theorem step1_dead {i : Nat} {n : Int} {o : Oper} {s1 : St} {q : List Bool} (h : step1 c z ops asm i o s = .dead n s1 q) (hq : ∀ b ∈ q, b = true)
    (hv : AsmAt c z ops asm o i s) : stepD c z ops asm (some (i, n)) i o s = some s1 := by
  unfold step1 at h
  unfold stepD del
  split at h
  · cases h
  · exact (okOr_dead h).elim
  · rename_i hg
    split at h
    · rename_i dn hdo
      split at h
      · rename_i m hyes
        split at h
        · cases h
        · rename_i e he
          split at h
          · rename_i s2 hp
            simp only [Out.dead.injEq] at h
            obtain ⟨rfl, rfl, rfl⟩ := h
            obtain ⟨b, n'⟩ := dn
            obtain ⟨hb, rfl⟩ := dying_yes hyes fun x hx v hav => hv.2 x n' v hg (by rw [hdo, hx]) hav
            have hall : e.req.all id = true := by simpa using hq
            have hdn : deadNow (dieOf c s o) = dkAt (some (i, m)) i := by rw [hdo]; simp [deadNow, hb, dkAt]
            rw [if_pos hdn]
            simp only [he, Option.bind_some, if_pos hall, hdo, Option.map_some, hp]
          · cases h
      · cases h
      · split at h
        · cases h
        · exact (okOr_dead h).elim
    · split at h
      · cases h
      · split at h
        · split at h
          · exact (okOr_dead h).elim
          · cases h
        · split at h
          · cases h
          · exact (okOr_dead h).elim

theorem dkAt_ne {k i : Nat} {n : Int} (h : i ≠ k) : dkAt (some (k, n)) i = none := by simp [dkAt, h]

theorem regRun_ok : ∀ (l : List Oper) (i : Nat) (s s' : St) (r rr : List Bool) (dk : Option (Nat × Int)), regRun c z ops asm l i s r dk = .ok s' rr → (∀ b ∈ rr, b = true) → AsmOK c z ops asm l i s →
    dk = none ∧ (∀ b ∈ r, b = true) ∧ runD c z ops asm none l i s = some s'
  | [], i, s, s', r, rr, dk, h, hq, _ => by
    simp only [regRun] at h
    split at h
    · simp only [Out.ok.injEq] at h
      obtain ⟨rfl, rfl⟩ := h
      exact ⟨rfl, hq, rfl⟩
    · cases h
  | o :: l, i, s, s', r, rr, dk, h, hq, ha => by
    simp only [regRun] at h
    split at h
    · rename_i s1 q h1
      obtain ⟨k0, k1, k2⟩ := regRun_ok l (i + 1) s1 s' (r ++ q) rr dk h hq (ha.2.1 s1 q h1)
      refine ⟨k0, fun b hb => k1 b (by simp [hb]), ?_⟩
      simp only [runD, step1_ok (dk := none) rfl h1 (fun b hb => k1 b (by simp [hb])) ha.1, Option.bind_some]
      exact k2
    · rename_i n s1 q h1
      split at h
      · have := (regRun_ok l (i + 1) s1 s' (r ++ q) rr _ h hq (ha.2.2 n s1 q h1)).1
        cases this
      · cases h
    · cases h
    · cases h

theorem regRun_after : ∀ (l : List Oper) (i : Nat) (s s' : St) (r rr : List Bool) (k : Nat) (n m : Int), k < i → regRun c z ops asm l i s r (some (k, n)) = .dead m s' rr → (∀ b ∈ rr, b = true) → AsmOK c z ops asm l i s →
    m = n ∧ (∀ b ∈ r, b = true) ∧ runD c z ops asm (some (k, n)) l i s = some s'
  | [], i, s, s', r, rr, k, n, m, hk, h, hq, _ => by
    simp only [regRun, Out.dead.injEq] at h
    obtain ⟨rfl, rfl, rfl⟩ := h
    exact ⟨rfl, hq, rfl⟩
  | o :: l, i, s, s', r, rr, k, n, m, hk, h, hq, ha => by
    simp only [regRun] at h
    split at h
    · rename_i s1 q h1
      obtain ⟨k0, k1, k2⟩ := regRun_after l (i + 1) s1 s' (r ++ q) rr k n m (by omega) h hq (ha.2.1 s1 q h1)
      refine ⟨k0, fun b hb => k1 b (by simp [hb]), ?_⟩
      simp only [runD, step1_ok (dk := some (k, n)) (dkAt_ne (by omega)) h1 (fun b hb => k1 b (by simp [hb])) ha.1, Option.bind_some]
      exact k2
    · cases h
    · cases h
    · cases h

theorem regRun_dead : ∀ (l : List Oper) (i : Nat) (s s' : St) (r rr : List Bool) (m : Int), regRun c z ops asm l i s r none = .dead m s' rr → (∀ b ∈ rr, b = true) → AsmOK c z ops asm l i s →
    (∀ b ∈ r, b = true) ∧ ∃ k, i ≤ k ∧ k < i + l.length ∧ runD c z ops asm (some (k, m)) l i s = some s'
  | [], i, s, s', r, rr, m, h, hq, _ => by simp [regRun] at h
  | o :: l, i, s, s', r, rr, m, h, hq, ha => by
    simp only [regRun] at h
    split at h
    · rename_i s1 q h1
      obtain ⟨k1, k, g1, g2, k2⟩ := regRun_dead l (i + 1) s1 s' (r ++ q) rr m h hq (ha.2.1 s1 q h1)
      refine ⟨fun b hb => k1 b (by simp [hb]), k, by omega, by simp; omega, ?_⟩
      simp only [runD, step1_ok (dk := some (k, m)) (dkAt_ne (by omega)) h1 (fun b hb => k1 b (by simp [hb])) ha.1, Option.bind_some]
      exact k2
    · rename_i n s1 q h1
      obtain ⟨rfl, k1, k2⟩ := regRun_after l (i + 1) s1 s' (r ++ q) rr i n m (by omega) h hq (ha.2.2 n s1 q h1)
      refine ⟨fun b hb => k1 b (by simp [hb]), i, Nat.le_refl _, by simp, ?_⟩
      simp only [runD, step1_dead h1 (fun b hb => k1 b (by simp [hb])) ha.1, Option.bind_some]
      exact k2
    · cases h
    · cases h

theorem step1_split {i j : Nat} {o : Oper} {b : Bool} (h : step1 c z ops asm i o s = .split j b) : j = i ∧ asmAt asm i = none ∧
    ((∃ n, dieOf c s o = some (.sym b, n)) ∨ (dieOf c s o = none ∧ ∀ e, guardOf ops s o = .run → opEval c z s o = some e → e.val = .s (.bool (.sym b)))) := by
  unfold step1 at h
  split at h
  · cases h
  · exact (okOr_split h).elim
  · split at h
    · rename_i dn hdo
      split at h
      · split at h
        · cases h
        · split at h <;> cases h
      · rename_i b' hask
        simp only [Out.split.injEq] at h
        obtain ⟨rfl, rfl⟩ := h
        obtain ⟨bv, n⟩ := dn
        cases bv with
        | lit v => cases v <;> simp [dying] at hask
        | sym x =>
          simp only [dying] at hask
          split at hask
          · cases hask
          · cases hask
          · rename_i hav
            simp only [Dy.ask.injEq] at hask
            subst hask
            exact ⟨rfl, hav, .inl ⟨n, hdo⟩⟩
      · split at h
        · cases h
        · exact (okOr_split h).elim
    · rename_i hdo
      split at h
      · cases h
      · rename_i e he
        split at h
        · split at h
          · exact (okOr_split h).elim
          · cases h
        · rename_i hav
          split at h
          · rename_i b' hb hgd
            simp only [Out.split.injEq] at h
            obtain ⟨rfl, rfl⟩ := h
            refine ⟨rfl, hav, .inr ⟨hdo, fun e' _ he' => ?_⟩⟩
            rw [he] at he'
            cases he'
            exact hb
          · exact (okOr_split h).elim

theorem regRun_le : ∀ (l : List Oper) (i : Nat) (s : St) (r : List Bool) (dk : Option (Nat × Int)) (j : Nat) (b : Bool), regRun c z ops asm l i s r dk = .split j b → i ≤ j
  | [], i, s, r, dk, j, b, h => by
    simp only [regRun] at h
    split at h <;> cases h
  | o :: l, i, s, r, dk, j, b, h => by
    simp only [regRun] at h
    split at h
    · have := regRun_le l (i + 1) _ _ _ j b h; omega
    · split at h
      · have := regRun_le l (i + 1) _ _ _ j b h; omega
      · cases h
    · rename_i j' b' h1
      simp only [Out.split.injEq] at h
      obtain ⟨rfl, rfl⟩ := h
      rw [(step1_split h1).1]
      exact Nat.le_refl _
    · cases h

theorem asmAt_cons {asm : List (Nat × Bool)} {j i : Nat} {v : Bool} (h : i ≠ j) : asmAt ((j, v) :: asm) i = asmAt asm i := by
  unfold asmAt
  rw [beq_false (fun e => h e.symm)]
  cases asm <;> rfl

theorem dying_cons {j i : Nat} {v : Bool} {d : Option (BV × Int)} (h : i ≠ j) : dying ((j, v) :: asm) i d = dying asm i d := by
  unfold dying
  rw [asmAt_cons h]

theorem step1_cons {j i : Nat} {v : Bool} {o : Oper} (h : i ≠ j) : step1 c z ops ((j, v) :: asm) i o s = step1 c z ops asm i o s := by
  unfold step1
  simp only [asmAt_cons h, dying_cons h]

theorem asmOK_cons {j : Nat} {b : Bool} (hb : asmBelow asm j = true) : ∀ (l : List Oper) (i : Nat) (s : St) (r : List Bool) (dk : Option (Nat × Int)), regRun c z ops asm l i s r dk = .split j b → AsmOK c z ops asm l i s →
    AsmOK c z ops ((j, b) :: asm) l i s
  | [], i, s, r, dk, h, _ => by
    simp only [regRun] at h
    split at h <;> cases h
  | o :: l, i, s, r, dk, h, ha => by
    simp only [regRun] at h
    have low : i ≠ j → (∀ s1 q, step1 c z ops asm i o s = .ok s1 q → AsmOK c z ops ((j, b) :: asm) l (i + 1) s1) → (∀ n s1 q, step1 c z ops asm i o s = .dead n s1 q → AsmOK c z ops ((j, b) :: asm) l (i + 1) s1) →
        AsmOK c z ops ((j, b) :: asm) (o :: l) i s := fun hne k1 k2 =>
      ⟨⟨fun e v b' hg hd he hv hs => ha.1.1 e v b' hg hd he (by rw [asmAt_cons hne] at hv; exact hv) hs, fun b' n v hg hd hv => ha.1.2 b' n v hg hd (by rw [asmAt_cons hne] at hv; exact hv)⟩,
        fun s1 q h1 => k1 s1 q (by rw [step1_cons hne] at h1; exact h1), fun n s1 q h1 => k2 n s1 q (by rw [step1_cons hne] at h1; exact h1)⟩
    split at h
    · rename_i s1 q h1
      have hle := regRun_le l (i + 1) _ _ _ j b h
      refine low (by omega) (fun s2 q2 h2 => ?_) (fun n s2 q2 h2 => (by rw [h1] at h2; cases h2))
      rw [h1] at h2
      simp only [Out.ok.injEq] at h2
      obtain ⟨rfl, rfl⟩ := h2
      exact asmOK_cons hb l (i + 1) s1 _ _ h (ha.2.1 s1 q h1)
    · rename_i n s1 q h1
      split at h
      · have hle := regRun_le l (i + 1) _ _ _ j b h
        refine low (by omega) (fun s2 q2 h2 => (by rw [h1] at h2; cases h2)) (fun n' s2 q2 h2 => ?_)
        rw [h1] at h2
        simp only [Out.dead.injEq] at h2
        obtain ⟨rfl, rfl, rfl⟩ := h2
        exact asmOK_cons hb l (i + 1) s1 _ _ h (ha.2.2 n s1 q h1)
      · cases h
    · rename_i j' b' h1
      simp only [Out.split.injEq] at h
      obtain ⟨rfl, rfl⟩ := h
      obtain ⟨e1, e2, e3⟩ := step1_split h1
      subst e1
      have h5 : asmAt ((j', b') :: asm) j' = some b' := by unfold asmAt; simp
      have rest : ∀ k, j' + 1 ≤ k → asmAt ((j', b') :: asm) k = none := fun k hk => by
        rw [asmAt_cons (by omega)]; exact asmAt_below hb (by omega)
      refine ⟨⟨fun e v bb hg hd he hv hs => ?_, fun bb n v hg hd hv => ?_⟩, fun s1 q _ => asmOK_none l _ s1 rest, fun n s1 q _ => asmOK_none l _ s1 rest⟩
      · rw [h5] at hv
        cases hv
        rcases e3 with ⟨n, h6⟩ | ⟨_, h6⟩
        · rw [hd] at h6; cases h6
        · have := h6 e hg he
          rw [hs] at this
          cases this
          rfl
      · rw [h5] at hv
        cases hv
        rcases e3 with ⟨n', h6⟩ | ⟨h6, _⟩
        · rw [hd] at h6; cases h6; rfl
        · rw [hd] at h6; cases h6
    · cases h
end
end Go.Adit

namespace Go.Adit
open Go.RowKit

/-- an item of the rest, as a piece of code that is still to be carried out -/
def iwp (P : Program) (x : Item) (Q : Exit → Act → World → Prop) (a : Act) (w : World) : Prop :=
  ∀ (b : Frame) (k : List Item) (cs : List Frame), ∃ e a' w', Q e a' w' ∧ Arrives P (lone (b.at a (x :: k)) cs w) b k cs e a' w'

theorem iwp_loop {P : Program} {c : Code} {Q : Exit → Act → World → Prop} {a : Act} {w : World} (h : c.wp P (Exit.then (iwp P (.inLoop c) Q) Q) a w) : iwp P (.inLoop c) Q a w := by
  intro b k cs
  obtain ⟨e, a₁, w₁, hq, harr⟩ := h b (.inLoop c :: k) cs
  cases e with
  | normal =>
    obtain ⟨e₂, a₂, w₂, hq₂, harr₂⟩ := hq b k cs
    exact ⟨e₂, a₂, w₂, hq₂, .of_steps (.head step_inLoop harr) harr₂⟩
  | exit id => exact ⟨_, a₁, w₁, hq, .of_steps (.one step_inLoop) (.pass (x := .inLoop c) rfl (fun _ _ => .inl (by simp)) harr)⟩
  | goto l => exact ⟨_, a₁, w₁, hq, .of_steps (.one step_inLoop) (.pass (x := .inLoop c) rfl (fun _ _ => .inl (by simp)) harr)⟩
  | ret => exact ⟨_, a₁, w₁, hq, .of_steps (.one step_inLoop) (.pass (x := .inLoop c) rfl (fun _ _ => .inl (by simp)) harr)⟩
  | panic ch => exact ⟨_, a₁, w₁, hq, .of_steps (.one step_inLoop) (.pass (x := .inLoop c) rfl (fun _ _ => .inl (by simp)) harr)⟩
  | outgrown => exact ⟨_, a₁, w₁, hq, .of_steps (.one step_inLoop) (.pass (x := .inLoop c) rfl (fun _ _ => .inl (by simp)) harr)⟩

theorem wp_loop_iwp {P : Program} {c : Code} {Q : Exit → Act → World → Prop} {a : Act} {w : World} (h : c.wp P (Exit.then (iwp P (.inLoop c) Q) Q) a w) : (Code.loop c).wp P Q a w := by
  intro b k cs
  obtain ⟨e, a₁, w₁, hq, harr⟩ := h b (.inLoop c :: k) cs
  cases e with
  | normal =>
    obtain ⟨e₂, a₂, w₂, hq₂, harr₂⟩ := hq b k cs
    exact ⟨e₂, a₂, w₂, hq₂, .of_steps (.head step_loop harr) harr₂⟩
  | exit id => exact ⟨_, a₁, w₁, hq, .of_steps (.one step_loop) (.pass (x := .inLoop c) rfl (fun _ _ => .inl (by simp)) harr)⟩
  | goto l => exact ⟨_, a₁, w₁, hq, .of_steps (.one step_loop) (.pass (x := .inLoop c) rfl (fun _ _ => .inl (by simp)) harr)⟩
  | ret => exact ⟨_, a₁, w₁, hq, .of_steps (.one step_loop) (.pass (x := .inLoop c) rfl (fun _ _ => .inl (by simp)) harr)⟩
  | panic ch => exact ⟨_, a₁, w₁, hq, .of_steps (.one step_loop) (.pass (x := .inLoop c) rfl (fun _ _ => .inl (by simp)) harr)⟩
  | outgrown => exact ⟨_, a₁, w₁, hq, .of_steps (.one step_loop) (.pass (x := .inLoop c) rfl (fun _ _ => .inl (by simp)) harr)⟩

/-- what the rest of the stack makes of an exit -/
def kwp (P : Program) (Qf : Exit → Act → World → Prop) (BK : Nat → Act → World → Prop) : List K → Exit → Act → World → Prop
  | [], e, a, w => Qf e a w
  | .code _ b :: k, .normal, a, w => b.wp P (kwp P Qf BK k) a w
  | .inLoop _ b :: k, .normal, a, w => iwp P (.inLoop b) (kwp P Qf BK k) a w
  | .mark i :: _, .normal, a, w => BK i a w
  | .reg ops d _ _ :: k, .normal, a, w => ∀ id, (Code.region id ops d).wp P (kwp P Qf BK k) a w
  | .inBlock id :: k, .exit id', a, w => if id' = id then kwp P Qf BK k .normal a w else kwp P Qf BK k (.exit id') a w
  | .inBlock _ :: k, .normal, a, w => kwp P Qf BK k .normal a w
  | .inScope :: _, .goto _, _, _ => False
  | _ :: k, e, a, w => kwp P Qf BK k e a w

def regsOk (c : Cfg) : Code → Bool
  | .seq a b => regsOk c a && regsOk c b
  | .cond _ a b => regsOk c a && regsOk c b
  | .block _ b => regsOk c b
  | .scope b => regsOk c b
  | .loop b => regsOk c b
  | .region id ops d => !d || (c.dyn id || drawOk c ops)
  | _ => true

def K.ok (c : Cfg) : K → Bool
  | .code _ b => regsOk c b
  | .inLoop _ b => regsOk c b
  | .reg ops d dy _ => !d || (dy || drawOk c ops)
  | _ => true

def Tr.holds (R : D → List SC → Prop) (Rd : Int → Prop) (A : Nat → List (Nat × D) → List (Nat × Blk) → Prop) : Tr → Prop
  | .ret d l => R d l
  | .die n => Rd n
  | .ite b x y => (b = true → x.holds R Rd A) ∧ (b = false → y.holds R Rd A)
  | .req l k => (∀ b ∈ l, b = true) ∧ k.holds R Rd A
  | .loop i v m => A i v m
  | .back i v m => A i v m
  | .fail _ => False

section
variable {P : Program} {w0 : Base} {N : Nat} {s s' : St} {β : Nat → Option Nat} {a : Act} {w : World} {c : Cfg} {z : Zs} {Qf : Exit → Act → World → Prop} {BK : Nat → Act → World → Prop}

theorem kwp_ret : ∀ {k : List K}, kwp P Qf BK k .ret a w = Qf .ret a w
  | [] => rfl
  | .code _ _ :: k | .inLoop _ _ :: k | .mark _ :: k | .reg _ _ _ _ :: k | .inBlock _ :: k | .inScope :: k => by simp only [kwp]; exact kwp_ret (k := k)

theorem kwp_panic {ch : List PanicEntry} : ∀ {k : List K}, kwp P Qf BK k (.panic ch) a w = Qf (.panic ch) a w
  | [] => rfl
  | .code _ _ :: k | .inLoop _ _ :: k | .mark _ :: k | .reg _ _ _ _ :: k | .inBlock _ :: k | .inScope :: k => by simp only [kwp]; exact kwp_panic (k := k)

theorem kwp_pop : ∀ {k k' : List K} {id : Nat}, popTo id k = some k' → kwp P Qf BK k' .normal a w → kwp P Qf BK k (.exit id) a w
  | [], _, _, h, _ => by simp [popTo] at h
  | .code _ _ :: k, k', id, h, hw | .inLoop _ _ :: k, k', id, h, hw | .mark _ :: k, k', id, h, hw | .reg _ _ _ _ :: k, k', id, h, hw | .inScope :: k, k', id, h, hw => by
    simp only [kwp]; exact kwp_pop (k := k) (by simpa [popTo] using h) hw
  | .inBlock j :: k, k', id, h, hw => by
    simp only [popTo] at h
    simp only [kwp]
    split at h
    · rename_i hj
      simp only [Option.some.injEq] at h
      subst h
      rw [if_pos (beq_of hj).symm]
      exact hw
    · rename_i hj
      rw [if_neg (fun e => hj (by rw [e]; exact Nat.beq_refl _))]
      exact kwp_pop h hw

theorem then_code {b : Code} {i : Nat} {k : List K} : ∀ e a w, kwp P Qf BK (.code i b :: k) e a w → Exit.then (b.wp P (kwp P Qf BK k)) (kwp P Qf BK k) e a w := by
  intro e a w h; cases e <;> exact h

theorem then_loop {b : Code} {i : Nat} {k : List K} : ∀ e a w, kwp P Qf BK (.inLoop i b :: k) e a w → Exit.then (iwp P (.inLoop b) (kwp P Qf BK k)) (kwp P Qf BK k) e a w := by
  intro e a w h; cases e <;> exact h

theorem then_block {id : Nat} {k : List K} : ∀ e a w, kwp P Qf BK (.inBlock id :: k) e a w → Exit.inBlock id (kwp P Qf BK k) e a w := by
  intro e a w h; cases e <;> exact h

theorem then_scope {k : List K} : ∀ e a w, kwp P Qf BK (.inScope :: k) e a w → Exit.noGoto (kwp P Qf BK k) e a w := by
  intro e a w h; cases e <;> first | exact h | exact h.elim

theorem loopAt_isSome : ∀ (b : Code) (i j : Nat) (k : List K), (loopAt i k b j).isSome = true ↔ i ≤ j ∧ j < i + nloops b := by
  intro b
  induction b with
  | seq x y ihx ihy =>
    intro i j k
    simp only [loopAt, nloops]
    cases h : loopAt i (.code (i + nloops x) y :: k) x j with
    | some r =>
      have := (ihx i j (.code (i + nloops x) y :: k)).1 (by rw [h]; rfl)
      simp; omega
    | none =>
      have h1 := ihx i j (.code (i + nloops x) y :: k)
      rw [h] at h1
      simp at h1
      have h2 := ihy (i + nloops x) j k
      simp only
      rw [h2]
      omega
  | cond q x y ihx ihy =>
    intro i j k
    simp only [loopAt, nloops]
    cases h : loopAt i k x j with
    | some r =>
      have := (ihx i j k).1 (by rw [h]; rfl)
      simp; omega
    | none =>
      have h1 := ihx i j k
      rw [h] at h1
      simp at h1
      have h2 := ihy (i + nloops x) j k
      simp only
      rw [h2]
      omega
  | block id x ih => intro i j k; simp only [loopAt, nloops]; exact ih i j (.inBlock id :: k)
  | scope x ih => intro i j k; simp only [loopAt, nloops]; exact ih i j (.inScope :: k)
  | loop x ih =>
    intro i j k
    simp only [loopAt, nloops]
    split
    · rename_i h; have := beq_of h; simp; omega
    · rename_i h
      rw [ih (i + 1) j (.mark i :: k)]
      have : i ≠ j := fun e => by rw [e, Nat.beq_refl] at h; cases h
      omega
  | _ => intro i j k; simp [loopAt, nloops] <;> omega
end
end Go.Adit

namespace Go.Adit
open Go.RowKit

/-- each loop of the stack is where the body has it -/
def Cons (body : Code) : List K → Prop
  | [] => True
  | .code i x :: k => (∀ j r, loopAt i k x j = some r → loopAt 0 [] body j = some r) ∧ Cons body k
  | .inLoop _ b :: k => nloops b = 0 ∧ Cons body k
  | _ :: k => Cons body k

theorem loopAt_none {i j : Nat} {k : List K} {b : Code} (h : ¬ (i ≤ j ∧ j < i + nloops b)) : loopAt i k b j = none := by
  cases e : loopAt i k b j with
  | none => rfl
  | some r => exact absurd ((loopAt_isSome b i j k).1 (by rw [e]; rfl)) h

theorem loopAt_in {i j : Nat} {k : List K} {b : Code} {r : Code × List K} (h : loopAt i k b j = some r) : i ≤ j ∧ j < i + nloops b :=
  (loopAt_isSome b i j k).1 (by rw [h]; rfl)

section
variable {body : Code} {i : Nat} {k : List K} {c : Cfg}

theorem Cons.seq {x y : Code} (h : Cons body (.code i (.seq x y) :: k)) : Cons body (.code i x :: .code (i + nloops x) y :: k) := by
  refine ⟨fun j r e => h.1 j r ?_, fun j r e => h.1 j r ?_, h.2⟩
  · simp only [loopAt, e]
  · have := loopAt_in e
    simp only [loopAt, loopAt_none (b := x) (i := i) (j := j) (k := .code (i + nloops x) y :: k) (by omega), e]

theorem Cons.cond1 {q : Operand} {x y : Code} (h : Cons body (.code i (.cond q x y) :: k)) : Cons body (.code i x :: k) := by
  refine ⟨fun j r e => h.1 j r ?_, h.2⟩
  simp only [loopAt, e]

theorem Cons.cond2 {q : Operand} {x y : Code} (h : Cons body (.code i (.cond q x y) :: k)) : Cons body (.code (i + nloops x) y :: k) := by
  refine ⟨fun j r e => h.1 j r ?_, h.2⟩
  have := loopAt_in e
  simp only [loopAt, loopAt_none (b := x) (i := i) (j := j) (k := k) (by omega), e]

theorem Cons.block {id : Nat} {x : Code} (h : Cons body (.code i (.block id x) :: k)) : Cons body (.code i x :: .inBlock id :: k) :=
  ⟨fun j r e => h.1 j r (by simpa only [loopAt] using e), h.2⟩

theorem Cons.scope {x : Code} (h : Cons body (.code i (.scope x) :: k)) : Cons body (.code i x :: .inScope :: k) :=
  ⟨fun j r e => h.1 j r (by simpa only [loopAt] using e), h.2⟩

theorem Cons.tail : ∀ {x : K}, Cons body (x :: k) → Cons body k
  | .code _ _, h | .inLoop _ _, h => h.2
  | .mark _, h | .inBlock _, h | .inScope, h | .reg _ _ _ _, h => h

theorem Cons.pop : ∀ {k k' : List K} {id : Nat}, popTo id k = some k' → Cons body k → Cons body k'
  | [], _, _, h, _ => by simp [popTo] at h
  | .code _ _ :: k, k', id, h, hc | .inLoop _ _ :: k, k', id, h, hc | .mark _ :: k, k', id, h, hc | .reg _ _ _ _ :: k, k', id, h, hc | .inScope :: k, k', id, h, hc =>
    Cons.pop (k := k) (by simpa [popTo] using h) hc.tail
  | .inBlock j :: k, k', id, h, hc => by
    simp only [popTo] at h
    split at h
    · simp only [Option.some.injEq] at h; subst h; exact hc
    · exact Cons.pop (k := k) h hc

theorem oks_pop : ∀ {k k' : List K} {id : Nat}, popTo id k = some k' → (∀ x ∈ k, x.ok c = true) → ∀ x ∈ k', x.ok c = true
  | [], _, _, h, _ => by simp [popTo] at h
  | .code _ _ :: k, k', id, h, hc | .inLoop _ _ :: k, k', id, h, hc | .mark _ :: k, k', id, h, hc | .reg _ _ _ _ :: k, k', id, h, hc | .inScope :: k, k', id, h, hc =>
    oks_pop (k := k) (by simpa [popTo] using h) (fun x hx => hc x (.tail _ hx))
  | .inBlock j :: k, k', id, h, hc => by
    simp only [popTo] at h
    split at h
    · simp only [Option.some.injEq] at h; subst h; exact fun x hx => hc x (.tail _ hx)
    · exact oks_pop (k := k) h (fun x hx => hc x (.tail _ hx))

/-- the marks of a stack -/
def marksB (n : Nat) : List K → Prop
  | [] => True
  | .mark j :: k => j < n ∧ marksB n k
  | _ :: k => marksB n k

theorem marksB.mono {n m : Nat} (h : n ≤ m) : ∀ {k : List K}, marksB n k → marksB m k
  | [], _ => trivial
  | .mark j :: k, hk => ⟨Nat.lt_of_lt_of_le hk.1 h, marksB.mono h hk.2⟩
  | .code _ _ :: k, hk | .inLoop _ _ :: k, hk | .reg _ _ _ _ :: k, hk | .inBlock _ :: k, hk | .inScope :: k, hk => marksB.mono (k := k) h hk

theorem round_at : ∀ (d : Code) (i : Nat) (k : List K) (j : Nat) (x : Code) (kk : List K), loopAt i k d j = some (x, kk) → Cons body (.code i d :: k) → regsOk c d = true → (∀ y ∈ k, y.ok c = true) → marksB i k →
    Cons body (.code (j + 1) x :: .mark j :: kk) ∧ regsOk c x = true ∧ (∀ y ∈ kk, y.ok c = true) ∧ marksB j kk := by
  intro d
  induction d with
  | seq a b iha ihb =>
    intro i k j x kk h hc hr hk hm
    simp only [loopAt] at h
    simp only [regsOk, Bool.and_eq_true] at hr
    split at h
    · rename_i r hx
      simp only [Option.some.injEq] at h
      subst h
      refine iha i _ j x kk hx hc.seq hr.1 (fun y hy => ?_) hm
      rcases List.mem_cons.1 hy with rfl | hy
      · exact hr.2
      · exact hk y hy
    · exact ihb _ _ j x kk h hc.seq.2 hr.2 hk (hm.mono (by omega))
  | cond q a b iha ihb =>
    intro i k j x kk h hc hr hk hm
    simp only [loopAt] at h
    simp only [regsOk, Bool.and_eq_true] at hr
    split at h
    · rename_i r hx
      simp only [Option.some.injEq] at h
      subst h
      exact iha i _ j x kk hx hc.cond1 hr.1 hk hm
    · exact ihb _ _ j x kk h hc.cond2 hr.2 hk (hm.mono (by omega))
  | block id a ih =>
    intro i k j x kk h hc hr hk hm
    simp only [loopAt] at h
    refine ih i _ j x kk h hc.block hr (fun y hy => ?_) hm
    rcases List.mem_cons.1 hy with rfl | hy
    · rfl
    · exact hk y hy
  | scope a ih =>
    intro i k j x kk h hc hr hk hm
    simp only [loopAt] at h
    refine ih i _ j x kk h hc.scope hr (fun y hy => ?_) hm
    rcases List.mem_cons.1 hy with rfl | hy
    · rfl
    · exact hk y hy
  | loop b ih =>
    intro i k j x kk h hc hr hk hm
    simp only [loopAt] at h
    have hc' : Cons body (.code (i + 1) b :: .mark i :: k) := by
      refine ⟨fun j' r e => hc.1 j' r ?_, hc.2⟩
      have := loopAt_in e
      simp only [loopAt, beq_false (show ¬ i = j' by omega), e]
    split at h
    · rename_i hij
      simp only [Option.some.injEq, Prod.mk.injEq] at h
      obtain ⟨rfl, rfl⟩ := h
      obtain rfl := beq_of hij
      exact ⟨hc', hr, hk, hm⟩
    · refine ih (i + 1) _ j x kk h hc' hr (fun y hy => ?_) ⟨by omega, hm.mono (by omega)⟩
      rcases List.mem_cons.1 hy with rfl | hy
      · rfl
      · exact hk y hy
  | _ => intro i k j x kk h; simp [loopAt] at h

theorem round_body {j : Nat} {x : Code} {kk : List K} (h : loopAt 0 [] body j = some (x, kk)) (hr : regsOk c body = true) :
    Cons body (.code (j + 1) x :: .mark j :: kk) ∧ regsOk c x = true ∧ (∀ y ∈ kk, y.ok c = true) ∧ marksB j kk :=
  round_at body 0 [] j x kk h ⟨fun _ _ e => e, trivial⟩ hr (fun _ h => nomatch h) trivial
end

section
variable {P : Program} {w0 : Base} {N : Nat} {s s' : St} {β : Nat → Option Nat} {a : Act} {w : World} {c : Cfg} {z : Zs} {Qf : Exit → Act → World → Prop} {BK BK' : Nat → Act → World → Prop}

theorem kwp_marks {n : Nat} (hB : ∀ j, j < n → BK j = BK' j) : ∀ (k : List K), marksB n k → kwp P Qf BK k = kwp P Qf BK' k
  | [], _ => by funext e a w; simp only [kwp]
  | .mark j :: k, hk => by
    have ih := kwp_marks hB k hk.2
    funext e a w
    cases e <;> simp only [kwp, ih, hB j hk.1]
  | .code _ _ :: k, hk | .inLoop _ _ :: k, hk | .reg _ _ _ _ :: k, hk | .inBlock _ :: k, hk | .inScope :: k, hk => by
    have ih := kwp_marks hB k hk
    funext e a w
    cases e <;> simp only [kwp, ih]

theorem RepD.restrict {own : Nat → Prop} {β' : Nat → Option Nat} {ok : Nat → Bool} (h1 : ∀ n b, β' n = some b → β n = some b) (h3 : ∀ n, hidN n = true → β' n = β n) (h2 : ∀ n, ok n = true → β' n = β n) {d : D} (hd : d.named ok = true) {v : Value} (h : RepD β own w d v) : RepD β' own w d v := by
  cases d with
  | s x => exact RepS.restrict h1 h3 (fun n hn => h2 n (by simpa [D.named] using (List.all_eq_true.1 hd) n hn)) h
  | agg l =>
    obtain ⟨cs, e1, e2⟩ := h
    exact ⟨cs, e1, RepL.restrict h1 h3 (fun x hx n hn => h2 n (List.all_eq_true.1 (List.all_eq_true.1 hd x hx) n hn)) e2⟩
  | tup l =>
    cases l with
    | nil => obtain ⟨vs, e1, e2⟩ := h; exact ⟨vs, e1, by cases vs with | nil => trivial | cons => exact e2.elim⟩
    | cons => simp [D.named] at hd

/-- a nil slice is one that may grow -/
theorem RepS.weak {own : Nat → Prop} {n i nm : Nat} {x : SC} {v : Value} (h : RepS β own w x v) : RepS β own w (weakS c n i nm x) v := by
  unfold weakS
  split
  · split
    · split
      · rename_i e _ l hz
        obtain ⟨g1, g2, g3⟩ := glZero_len hz
        have hv : v = .slice none 0 0 := h
        subst hv
        exact ⟨g3, by rw [g1]; decide, by rw [g1, g2]; exact World.ownsRow_nil w 0 _ _, fun b hb => by simp [Value.ownBlock] at hb⟩
      · exact h
    · exact h
  · exact h

theorem RepL.weak {own : Nat → Prop} {n : Nat} : ∀ {l : List SC} {i : Nat} {vs : List Value}, RepL β own w l vs → RepL β own w (weakL c n i l) vs
  | [], _, [], _ => trivial
  | _ :: _, _, _ :: _, ⟨h1, h2⟩ => ⟨h1.weak, RepL.weak h2⟩
  | [], _, _ :: _, h => h.elim
  | _ :: _, _, [], h => h.elim

theorem flats_weak {n : Nat} : ∀ {l : List SC} {i : Nat}, flats l = true → flats (weakL c n i l) = true
  | [], _, _ => rfl
  | x :: l, i, h => by
    simp only [flats, List.all_cons, Bool.and_eq_true, weakL] at h ⊢
    refine ⟨?_, flats_weak h.2⟩
    unfold weakS
    split
    · split
      · split <;> rfl
      · rfl
    · exact h.1

theorem RepD.weak {own : Nat → Prop} {n : Nat} {d : D} {v : Value} (h : RepD β own w d v) : RepD β own w (weakD c n d) v := by
  cases d with
  | s x => exact RepS.weak h
  | agg l => exact h
  | tup l => exact h

theorem viewT_look {bs : List Nat} : ∀ {ts : List Nat} {v : List (Nat × D)}, viewT c s bs ts = some v → ∀ t d, lookT v t = some d → ∃ d0, d = weakD c t d0 ∧ s.t t = some d0 ∧ d0.named (memN bs) = true
  | [], v, h, t, d, hd => by simp only [viewT, Option.some.injEq] at h; subst h; simp [lookT] at hd
  | u :: ts, v, h, t, d, hd => by
    simp only [viewT] at h
    split at h
    · rename_i d' l h1 h2
      split at h
      · rename_i hn
        simp only [Option.some.injEq] at h
        subst h
        simp only [lookT] at hd
        split at hd
        · rename_i hu
          obtain rfl := beq_of hu
          simp only [Option.some.injEq] at hd
          exact ⟨d', hd.symm, h1, hn⟩
        · exact viewT_look h2 t d hd
      · cases h
    · cases h

theorem viewM_look : ∀ {ts : List Nat} {v : List (Nat × Blk)}, viewM c s ts = some v → ∀ t, (∀ d, lookM v t = some d → ∃ d0, d = ⟨weakL c t 0 d0.cells, d0.ty⟩ ∧ s.m t = some d0 ∧ memN ts t = true) ∧ (lookM v t = none → memN ts t = false)
  | [], v, h, t => by simp only [viewM, Option.some.injEq] at h; subst h; simp [lookM, memN]
  | u :: ts, v, h, t => by
    simp only [viewM] at h
    split at h
    · rename_i d' l h1 h2
      simp only [Option.some.injEq] at h
      subst h
      have ih := viewM_look h2 t
      simp only [lookM, memN]
      by_cases e : t = u
      · subst e
        simp only [Nat.beq_refl]
        refine ⟨fun d hd => ?_, fun h => by cases h⟩
        simp only [Option.some.injEq] at hd
        exact ⟨d', hd.symm, h1, trivial⟩
      · rw [beq_false e, beq_false (fun x => e x.symm)]
        exact ih
    · cases h

theorem Rel.view (h : Rel w0 N s β a w) {q : List Nat × List Nat} {v : List (Nat × D)} {m : List (Nat × Blk)} (hv : viewT c s q.2 q.1 = some v) (hm : viewM c s q.2 = some m) :
    Rel w0 N (St.of v m) (fun n => if hidN n = true ∨ memN q.2 n = true then β n else none) a w := by
  have h1 : ∀ n b, (fun n => if hidN n = true ∨ memN q.2 n = true then β n else none) n = some b → β n = some b := by
    intro n b e; simp only at e; split at e
    · exact e
    · cases e
  have h2 : ∀ n, memN q.2 n = true → (fun n => if hidN n = true ∨ memN q.2 n = true then β n else none) n = β n := by intro n e; simp only [e, or_true, if_true]
  have h3 : ∀ n, hidN n = true → (fun n => if hidN n = true ∨ memN q.2 n = true then β n else none) n = β n := by intro n e; simp only [e, true_or, if_true]
  refine ⟨h.sz, fun t d hd => ?_, fun n blk hn => ?_, fun n hh hn => ?_, fun n hh => ?_, fun n n' b e e' => h.inj n n' b (h1 _ _ e) (h1 _ _ e'), fun n b e => h.new n b (h1 _ _ e), h.bel, h.dfr, fun n b hn hb b' h' => h.lnt n b hn hb b' (h1 _ _ h')⟩
  · obtain ⟨d0, rfl, g1, g2⟩ := viewT_look hv t d hd
    obtain ⟨u, e1, e2⟩ := h.tm t d0 g1
    exact ⟨u, e1, (e2.restrict h1 h3 h2 g2).weak⟩
  · obtain ⟨d0, rfl, g1, g2⟩ := (viewM_look hm n).1 blk hn
    obtain ⟨b, cs, ty, e1, e2, e3, e4⟩ := h.mem n d0 g1
    refine ⟨b, cs, ty, by rw [← e1]; exact h2 n g2, e2, (RepL.restrict h1 h3 (fun x hx k hk => ?_) e3).weak, flats_weak e4⟩
    have hf := List.all_eq_true.1 e4 x hx
    have : x.names = [] := by cases x <;> simp_all [SC.flat, SC.names]
    rw [this] at hk
    cases hk
  · have := (viewM_look hm n).2 hn
    simp only [this, hh]
    rfl
  · cases e : (St.of v m).m n with
    | none => rfl
    | some blk =>
      obtain ⟨d0, _, g1, _⟩ := (viewM_look hm n).1 blk e
      rw [h.nhid n hh] at g1; cases g1

theorem Rel.ofView (h : Rel w0 N s β a w) {q : List Nat × List Nat} {R : D → List SC → Prop} {Rd : Int → Prop} {A : Nat → List (Nat × D) → List (Nat × Blk) → Prop} {f : List (Nat × D) → List (Nat × Blk) → Tr} (hv : (Adit.view c s q f).holds R Rd A) :
    ∃ v m β', (f v m).holds R Rd A ∧ Rel w0 N (St.of v m) β' a w := by
  unfold Adit.view at hv
  split at hv
  · rename_i v m h1 h2
    exact ⟨v, m, _, hv, h.view h1 h2⟩
  · exact hv.elim

/-- the answers of a function as one value -/
def outD : List D → D
  | [d] => d
  | l => .tup l

def oneRes (tmps : Array Value) : ResultVar → Sem Value
  | .tmp t => pure (tmps.getD t undef)
  | .cell a t => do loadVar t (← asAddr (tmps.getD a undef))

theorem results_eq (fn : Func) (tmps : Array Value) : results fn tmps = (do
    let vs ← fn.results.mapM (oneRes tmps)
    pure (if h : vs.size = 1 then vs[0] else .tuple vs)) := by
  unfold results
  congr 1

/-- the names that are to be seen -/
def visB (β : Nat → Option Nat) : Nat → Option Nat := fun n => match hidN n with | true => none | false => β n

theorem visB_some {n b : Nat} (h : visB β n = some b) : hidN n = false ∧ β n = some b := by
  unfold visB at h
  split at h
  · cases h
  · rename_i e; exact ⟨e, h⟩

theorem list_give {own : Nat → Prop} (hi : ∀ n m b, hidN n = true → β n = some b → β m = some b → n = m) {gl : GL} {v : Value} (h : ListAt w (fun b => own b ∧ ((∀ n, β n ≠ some b) ∨ ∃ n, hidN n = true ∧ β n = some b)) gl v) : RepS (visB β) own w (SC.give (.own gl)) v := by
  have hA : ∀ b, (own b ∧ ((∀ n, β n ≠ some b) ∨ ∃ n, hidN n = true ∧ β n = some b)) → (∀ n, visB β n ≠ some b) ∧ own b := by
    intro b hb
    refine ⟨fun n e => ?_, hb.1⟩
    obtain ⟨e1, e2⟩ := visB_some e
    rcases hb.2 with h | ⟨m, h1, h2⟩
    · exact h n e2
    · have := hi m n b h1 h2 e2
      subst this
      rw [h1] at e1; cases e1
  cases gl with
  | exts l => exact listAt_exts (h.imp fun b hb => ⟨(hA b hb).1, fun _ => (hA b hb).2⟩)
  | strs l => exact h.imp hA
  | ints l => exact h.imp hA
  | bytes l => exact h.imp hA

theorem RepS.give {own : Nat → Prop} (hi : ∀ n m b, hidN n = true → β n = some b → β m = some b → n = m) {x : SC} {v : Value} (hx : x.give.clean = true) (h : RepS β own w x v) : RepS (visB β) own w x.give v := by
  have lst : ∀ {gl : GL}, x.list? = some gl → x.give = SC.give (.own gl) → RepS (visB β) own w x.give v := fun {gl} hl hg => by rw [hg]; exact list_give hi (list_at hl h)
  cases x with
  | gs n e gl => exact lst rfl (by cases gl <;> rfl)
  | gv n gl => exact lst rfl (by cases gl <;> rfl)
  | own gl => exact lst rfl rfl
  | nils =>
    have hv : v = .slice none 0 0 := h
    subst hv
    exact ⟨none, 0, rfl, by decide, .inl rfl⟩
  | bool | int | byte | str => exact h
  | exts l o =>
    obtain ⟨a, cap, e1, e2, e3⟩ := h
    exact ⟨a, cap, e1, e2, e3.imp id fun ⟨b, off, f1, f2, f3, f4⟩ => ⟨b, off, f1, f2, ⟨fun n e => f3.1 n (visB_some e).2, f3.2⟩, f4⟩⟩
  | _ => simp [SC.give, SC.clean] at hx

theorem RepL.give {own : Nat → Prop} (hi : ∀ n m b, hidN n = true → β n = some b → β m = some b → n = m) : ∀ {l : List SC} {vs : List Value}, (l.map SC.give).all SC.clean = true → RepL β own w l vs → RepL (visB β) own w (l.map SC.give) vs
  | [], [], _, _ => trivial
  | x :: l, v :: vs, hx, ⟨h1, h2⟩ => by
    simp only [List.map_cons, List.all_cons, Bool.and_eq_true] at hx
    exact ⟨h1.give hi hx.1, RepL.give hi hx.2 h2⟩
  | [], _ :: _, _, h => h.elim
  | _ :: _, [], _, h => h.elim

theorem RepD.give {own : Nat → Prop} (hi : ∀ n m b, hidN n = true → β n = some b → β m = some b → n = m) {d : D} {v : Value} (hd : d.give.clean = true) (h : RepD β own w d v) : Rep1 (visB β) own w d.give v := by
  cases d with
  | s x => exact RepS.give hi hd h
  | agg l =>
    obtain ⟨cs, e1, e2⟩ := h
    exact ⟨cs, e1, e2.give hi hd⟩
  | tup l => simp [D.give, D.clean] at hd

theorem give_clean (gl : GL) : (SC.give (.own gl)).clean = true := by cases gl <;> rfl

theorem run_results (E : Env P c z) {fn : Func} (hR : Rel w0 N s β a w) {ds : List D} (h : ressOf c s fn.results.toList = some ds) :
    ∃ v, (results fn a.tmps).run P w = .ok v w ∧ RepD (visB β) (fun b => w0.heap.size ≤ b) w (outD ds) v ∧ ∀ d ∈ ds, d.clean = true := by
  have one : ∀ (x : ResultVar) (d : D), resOf c s x = some d → ∃ v, (oneRes a.tmps x).run P w = .ok v w ∧
      Rep1 (visB β) (fun b => w0.heap.size ≤ b) w d v ∧ d.clean = true := by
    intro x d hx
    cases x with
    | tmp t =>
      simp only [resOf] at hx
      have fin : ∀ {d'}, s.t t = some d' → ∃ v, (oneRes a.tmps (.tmp t)).run P w = .ok v w ∧ RepD β (fun b => w0.heap.size ≤ b) w d' v := by
        intro d' h1
        obtain ⟨v, g1, g2⟩ := hR.tm t d' h1
        refine ⟨v, ?_, g2⟩
        simp only [oneRes, Array.getD_eq_getD_getElem?, g1]
        rfl
      split at hx
      · rename_i h1
        obtain ⟨v, g1, g2⟩ := fin h1
        have hv : v = .slice none 0 0 := g2
        split at hx
        · rename_i gl hgl
          simp only [Option.some.injEq] at hx
          subst hx
          obtain ⟨e, _, hz⟩ := Option.bind_eq_some_iff.1 hgl
          obtain ⟨k1, k2, k3⟩ := glZero_len hz
          refine ⟨v, g1, ?_, give_clean gl⟩
          exact list_give hR.hidInj ⟨k3, by rw [k1]; decide, none, 0, by rw [hv, k1], .inl k1⟩
        · simp only [Option.some.injEq] at hx
          subst hx
          exact ⟨v, g1, ⟨none, 0, hv, by decide, .inl rfl⟩, rfl⟩
      · rename_i d' _ h1
        split at hx
        · rename_i hc
          simp only [Option.some.injEq] at hx
          subst hx
          obtain ⟨v, g1, g2⟩ := fin h1
          exact ⟨v, g1, g2.give hR.hidInj hc, hc⟩
        · cases hx
      · cases hx
    | cell y t =>
      simp only [resOf] at hx
      split at hx
      · rename_i n off hy
        split at hx
        · rename_i b hb
          split at hx
          · rename_i hk
            simp only [Option.bind_eq_some_iff] at hx
            obtain ⟨d', h1, h2⟩ := hx
            split at h2
            · rename_i hc
              simp only [Option.some.injEq] at h2
              subst h2
              obtain ⟨v, g1, bb, g2, g3⟩ := hR.tm y _ hy
              obtain ⟨b', cs, ty, k1, k2, k3, _⟩ := hR.mem n b hb
              obtain rfl : bb = b' := by rw [g2] at k1; exact Option.some.inj k1
              obtain ⟨u, m1, m2⟩ := run_loadVar E hk k3 k2 h1
              refine ⟨u, ?_, m2.give hR.hidInj hc, hc⟩
              subst g3
              simp only [oneRes, Array.getD_eq_getD_getElem?, g1]
              simp [asAddr, m1]
            · cases h2
          · cases hx
        · cases hx
      · cases hx
  have all : ∀ (l : List ResultVar) (ds : List D), ressOf c s l = some ds → ∃ vs, (l.mapM (oneRes a.tmps)).run P w = .ok vs w ∧
      RepLs (visB β) (fun b => w0.heap.size ≤ b) w ds vs ∧ ∀ d ∈ ds, d.clean = true := by
    intro l
    induction l with
    | nil => intro ds hds; simp only [ressOf, Option.some.injEq] at hds; subst hds; exact ⟨[], by simp, trivial, by simp⟩
    | cons x l ih =>
      intro ds hds
      simp only [ressOf] at hds
      split at hds
      · rename_i d ds' h1 h2
        simp only [Option.some.injEq] at hds
        subst hds
        obtain ⟨v, g1, g2, g3⟩ := one x d h1
        obtain ⟨vs, k1, k2, k3⟩ := ih ds' h2
        refine ⟨v :: vs, ?_, ⟨g2, k2⟩, ?_⟩
        · simp [List.mapM_cons, g1, k1]
        · intro d' hd'
          rcases List.mem_cons.1 hd' with rfl | hd'
          · exact g3
          · exact k3 d' hd'
      · cases hds
  obtain ⟨vs, g1, g2, g3⟩ := all _ _ h
  refine ⟨if h : vs.toArray.size = 1 then vs.toArray[0] else .tuple vs.toArray, ?_, ?_, g3⟩
  · rw [results_eq, show fn.results = fn.results.toList.toArray from rfl, List.mapM_toArray]
    simp only [map_eq_pure_bind, bind_assoc, pure_bind]
    simp [g1]
  · cases ds with
    | nil => cases vs with
      | nil => exact ⟨[], rfl, trivial⟩
      | cons => exact g2.elim
    | cons d ds => cases ds with
      | nil => cases vs with
        | nil => exact g2.elim
        | cons v vs => cases vs with
          | nil =>
            have := g3 d (.head _)
            cases d with
            | s x => exact g2.1
            | agg l => exact g2.1
            | tup l => simp [D.clean] at this
          | cons => exact g2.2.elim
      | cons d' ds => cases vs with
        | nil => exact g2.elim
        | cons v vs => cases vs with
          | nil => exact g2.2.elim
          | cons v' vs => exact ⟨v :: v' :: vs, by simp, g2⟩

theorem finish_ok (E : Env P c z) {fn : Func} (hR : Rel w0 N s β a w) {R : D → List SC → Prop} {Rd : Int → Prop} {A : Nat → List (Nat × D) → List (Nat × Blk) → Prop} (h : (finish c fn.results.toList s).holds R Rd A) :
    ∃ v d l, (results fn a.tmps).run P w = .ok v w ∧ RepD (visB β) (fun b => w0.heap.size ≤ b) w d v ∧ d.cleanT = true ∧ R d l ∧ l.all SC.clean = true ∧
      ((s.m lentName = none ∧ l = []) ∨ ∃ b, s.m lentName = some b ∧ l = b.cells) := by
  have lb : ∀ d, (match s.m lentName with | none => Tr.ret d [] | some b => if b.cells.all SC.clean then .ret d b.cells else .fail 10).holds R Rd A → ∃ l, R d l ∧ l.all SC.clean = true ∧ ((s.m lentName = none ∧ l = []) ∨ ∃ b, s.m lentName = some b ∧ l = b.cells) := by
    intro d h
    split at h
    · rename_i hm; exact ⟨[], h, rfl, .inl ⟨hm, rfl⟩⟩
    · rename_i b hm
      split at h
      · rename_i hc; exact ⟨b.cells, h, hc, .inr ⟨b, hm, rfl⟩⟩
      · exact h.elim
  unfold finish at h
  split at h
  · rename_i d hd
    obtain ⟨v, g1, g2, g3⟩ := run_results E hR hd
    obtain ⟨l, k1, k2, k3⟩ := lb d h
    refine ⟨v, d, l, g1, g2, ?_, k1, k2, k3⟩
    have := g3 d (.head _)
    cases d with
    | tup l => simp [D.clean] at this
    | s x => exact this
    | agg l => exact this
  · rename_i l hne hl
    obtain ⟨v, g1, g2, g3⟩ := run_results E hR hl
    obtain ⟨l', k1, k2, k3⟩ := lb (.tup l) h
    refine ⟨v, .tup l, l', g1, ?_, by simpa [D.cleanT] using g3, k1, k2, k3⟩
    unfold outD at g2
    split at g2
    · rename_i d; exact absurd rfl (hne d)
    · exact g2
  · exact h.elim
end
end Go.Adit

namespace Go.Adit
open Go.RowKit

def noReg : List K → Bool
  | [] => true
  | .reg _ _ _ _ :: _ => false
  | _ :: k => noReg k

theorem noReg_pop : ∀ {k k' : List K} {id : Nat}, popTo id k = some k' → noReg k = true → noReg k' = true
  | [], _, _, h, _ => by simp [popTo] at h
  | .reg _ _ _ _ :: k, k', id, h, hc => by simp [noReg] at hc
  | .code _ _ :: k, k', id, h, hc | .inLoop _ _ :: k, k', id, h, hc | .mark _ :: k, k', id, h, hc | .inScope :: k, k', id, h, hc =>
    noReg_pop (k := k) (by simpa [popTo] using h) hc
  | .inBlock j :: k, k', id, h, hc => by
    simp only [popTo] at h
    split at h
    · simp only [Option.some.injEq] at h; subst h; exact hc
    · exact noReg_pop (k := k) h hc

theorem marksB_pop {n : Nat} : ∀ {k k' : List K} {id : Nat}, popTo id k = some k' → marksB n k → marksB n k'
  | [], _, _, h, _ => by simp [popTo] at h
  | .mark _ :: k, k', id, h, hc => marksB_pop (k := k) (by simpa [popTo] using h) hc.2
  | .reg _ _ _ _ :: k, k', id, h, hc | .code _ _ :: k, k', id, h, hc | .inLoop _ _ :: k, k', id, h, hc | .inScope :: k, k', id, h, hc =>
    marksB_pop (k := k) (by simpa [popTo] using h) hc
  | .inBlock j :: k, k', id, h, hc => by
    simp only [popTo] at h
    split at h
    · simp only [Option.some.injEq] at h; subst h; exact hc
    · exact marksB_pop (k := k) h hc

theorem marksB.tail {n : Nat} : ∀ {x : K} {k : List K}, marksB n (x :: k) → marksB n k
  | .mark _, _, h => h.2
  | .reg _ _ _ _, _, h | .code _ _, _, h | .inLoop _ _, _, h | .inBlock _, _, h | .inScope, _, h => h

section
variable {P : Program} {w0 : Base} {N : Nat} {c : Cfg} {z : Zs} {Qf : Exit → Act → World → Prop} {BK : Nat → Act → World → Prop} {body : Code} {rs : List ResultVar} {R : D → List SC → Prop} {Rd : Int → Prop} {A : Nat → List (Nat × D) → List (Nat × Blk) → Prop}

theorem dynD {ops : Array Oper} {s : St} {d dy : Bool} (hd : d = true → dy = true ∨ drawOk c ops = true) (h : dynOk c ops s dy d = true) : d = true → drawOk c ops = true ∨ drawOk2 c ops s = true := by
  intro h1
  rcases hd h1 with h2 | h2
  · subst h1; subst h2; exact .inr h
  · exact .inl h2

theorem sym_sound (E : Env P c z) (hz : ZeroFlat c z) (hN : c.n = N)
    (hQ : ∀ s β a w, (finish c rs s).holds R Rd A → Rel w0 N s β a w → Qf .ret a w ∧ Qf .normal a w)
    (hD : ∀ n s s1 β a w w', Rd n → c.hold s = true → Grow c s s1 → Rel w0 N s1 β a w → Left w0 N c s1 β a w' → Qf (.panic (errChain n)) a w')
    (hL : ∀ i v m β a w x k, A i v m → loopAt 0 [] body i = some (x, k) → Rel w0 N (St.of v m) β a w → (Code.loop x).wp P (kwp P Qf BK k) a w)
    (hB : ∀ i v m β a w, i < nloops body → A i v m → Rel w0 N (St.of v m) β a w → BK i a w) :
    ∀ n, (∀ k s β a w, noReg k = true → marksB (nloops body) k → Cons body k → (∀ x ∈ k, x.ok c = true) → (sym c z rs n k s).holds R Rd A → Rel w0 N s β a w → kwp P Qf BK k .normal a w) ∧
      (∀ ops d dy asm k s β a w, noReg k = true → marksB (nloops body) k → Cons body k → (∀ x ∈ k, x.ok c = true) → (d = true → dy = true ∨ drawOk c ops = true) → AsmOK c z ops asm ops.toList 0 s →
        (sym c z rs n (.reg ops d dy asm :: k) s).holds R Rd A → Rel w0 N s β a w → ∀ id, (Code.region id ops d).wp P (kwp P Qf BK k) a w) := by
  intro n
  induction n with
  | zero => exact ⟨fun k s β a w _ _ _ _ h => by simp [sym, Tr.holds] at h, fun ops d dy asm k s β a w _ _ _ _ _ _ h => by simp [sym, Tr.holds] at h⟩
  | succ n ih =>
    obtain ⟨ih1, ih2⟩ := ih
    refine ⟨fun k s β a w hn hm hc hk h hR => ?_, fun ops d dy asm k s β a w hn hm hc hk hd ha h hR id => ?_⟩
    · cases k with
      | nil =>
        simp only [sym] at h
        simp only [kwp]
        exact (hQ s β a w h hR).2
      | cons x k =>
        have hk' : ∀ x ∈ k, x.ok c = true := fun y hy => hk y (.tail _ hy)
        have hx := hk x (.head _)
        cases x with
        | reg ops d dy asm => simp [noReg] at hn
        | inBlock id =>
          simp only [sym] at h
          simp only [kwp]
          exact ih1 k s β a w hn hm.tail hc.tail hk' h hR
        | inScope =>
          simp only [sym] at h
          simp only [kwp]
          exact ih1 k s β a w hn hm.tail hc.tail hk' h hR
        | mark i =>
          simp only [sym] at h
          simp only [kwp]
          split at h
          · exact h.elim
          · obtain ⟨v, m, β', h', hR'⟩ := hR.ofView h
            exact hB i _ _ β' a w hm.1 h' hR'
        | inLoop i b =>
          simp only [sym] at h
          simp only [kwp]
          have hb : nloops b = 0 := hc.1
          have := ih1 (.code (i + 1) b :: .inLoop i b :: k) s β a w hn hm ⟨fun j r e => (by rw [loopAt_none (by omega)] at e; cases e), hc⟩ (fun y hy => by
            rcases List.mem_cons.1 hy with rfl | hy
            · exact hx
            · exact hk y hy) h hR
          simp only [kwp] at this
          exact iwp_loop (wp_mono this then_loop)
        | code i x =>
          have hn' : noReg k = true := hn
          have hm' : marksB (nloops body) k := hm
          simp only [kwp]
          cases x with
          | skip =>
            simp only [sym] at h
            exact wp_skip (ih1 k s β a w hn' hm' hc.tail hk' h hR)
          | label l =>
            simp only [sym] at h
            exact wp_label (ih1 k s β a w hn' hm' hc.tail hk' h hR)
          | seq p q =>
            simp only [sym] at h
            simp only [K.ok, regsOk, Bool.and_eq_true] at hx
            have := ih1 _ s β a w (by simpa [noReg] using hn') (by simpa [marksB] using hm') hc.seq (fun y hy => by
              rcases List.mem_cons.1 hy with rfl | hy
              · exact hx.1
              rcases List.mem_cons.1 hy with rfl | hy
              · exact hx.2
              · exact hk' y hy) h hR
            simp only [kwp] at this
            exact wp_seq (wp_mono this then_code)
          | block id b =>
            simp only [sym] at h
            have := ih1 _ s β a w (by simpa [noReg] using hn') (by simpa [marksB] using hm') hc.block (fun y hy => by
              rcases List.mem_cons.1 hy with rfl | hy
              · exact hx
              rcases List.mem_cons.1 hy with rfl | hy
              · rfl
              · exact hk' y hy) h hR
            simp only [kwp] at this
            exact wp_block (wp_mono this then_block)
          | scope b =>
            simp only [sym] at h
            have := ih1 _ s β a w (by simpa [noReg] using hn') (by simpa [marksB] using hm') hc.scope (fun y hy => by
              rcases List.mem_cons.1 hy with rfl | hy
              · exact hx
              rcases List.mem_cons.1 hy with rfl | hy
              · rfl
              · exact hk' y hy) h hR
            simp only [kwp] at this
            exact wp_scope_straight (wp_mono this then_scope)
          | exit id =>
            simp only [sym] at h
            split at h
            · rename_i k' hp
              exact wp_exit (kwp_pop hp (ih1 k' s β a w (noReg_pop hp hn') (marksB_pop hp hm') (hc.tail.pop hp) (oks_pop hp hk') h hR))
            · exact h.elim
          | ret =>
            simp only [sym] at h
            exact wp_ret (by rw [kwp_ret]; exact (hQ s β a w h hR).1)
          | cond q p r =>
            simp only [sym] at h
            simp only [K.ok, regsOk, Bool.and_eq_true] at hx
            have h1 : (sym c z rs n (.code i p :: k) s).holds R Rd A → p.wp P (kwp P Qf BK k) a w := fun h => by
              have := ih1 _ s β a w (by simpa [noReg] using hn') (by simpa [marksB] using hm') hc.cond1 (fun y hy => by
                rcases List.mem_cons.1 hy with rfl | hy
                · exact hx.1
                · exact hk' y hy) h hR
              simpa only [kwp] using this
            have h2 : (sym c z rs n (.code (i + nloops p) r :: k) s).holds R Rd A → r.wp P (kwp P Qf BK k) a w := fun h => by
              have := ih1 _ s β a w (by simpa [noReg] using hn') (by simpa [marksB] using hm') hc.cond2 (fun y hy => by
                rcases List.mem_cons.1 hy with rfl | hy
                · exact hx.2
                · exact hk' y hy) h hR
              simpa only [kwp] using this
            split at h
            · rename_i hq
              exact wp_cond_true (ev_rep hR hq) (h1 h)
            · rename_i hq
              exact wp_cond_false (ev_rep hR hq) (h2 h)
            · rename_i b hq
              simp only [Tr.holds] at h
              exact wp_cond_split (ev_rep hR hq) (fun hb => h1 (h.1 hb)) (fun hb => h2 (h.2 hb))
            · exact h.elim
          | loop b =>
            simp only [sym] at h
            split at h
            · split at h
              · rename_i hb
                have := ih1 (.code (i + 1) b :: .inLoop i b :: k) s β a w (by simpa [noReg] using hn') (by simpa [marksB] using hm') ⟨fun j r e => (by rw [loopAt_none (by omega)] at e; cases e), hb, hc.tail⟩ (fun y hy => by
                  rcases List.mem_cons.1 hy with rfl | hy
                  · exact hx
                  rcases List.mem_cons.1 hy with rfl | hy
                  · exact hx
                  · exact hk' y hy) h hR
                simp only [kwp] at this
                exact wp_loop_iwp (wp_mono this then_loop)
              · exact h.elim
            · obtain ⟨v, m, β', h', hR'⟩ := hR.ofView h
              exact hL i _ _ β' a w b k h' (hc.1 i (b, k) (by simp [loopAt])) hR'
          | region id ops d =>
            simp only [sym] at h
            exact ih2 ops d (c.dyn id) [] k s β a w hn' hm' hc.tail hk' (fun hd => by subst hd; simpa [K.ok, regsOk] using hx) (asmOK_none _ _ _ fun _ _ => rfl) h hR id
          | _ => simp [sym, Tr.holds] at h
    · simp only [sym] at h
      split at h
      · rename_i s' hr
        split at h
        · rename_i hdy
          obtain ⟨_, _, k2⟩ := regRun_ok _ _ _ _ _ _ _ hr (fun _ h => nomatch h) ha
          exact region_sound E hz hN (dynD hd hdy) k2 hR fun β' a' w' hR' => ih1 k s' β' a' w' hn hm hc hk h hR'
        · exact h.elim
      · rename_i s' r hne hr
        split at h
        · rename_i hdy
          simp only [Tr.holds] at h
          obtain ⟨_, _, k2⟩ := regRun_ok _ _ _ _ _ _ _ hr h.1 ha
          exact region_sound E hz hN (dynD hd hdy) k2 hR fun β' a' w' hR' => ih1 k s' β' a' w' hn hm hc hk h.2 hR'
        · exact h.elim
      · rename_i e s' r hr
        split at h
        · rename_i hdy
          split at h
          · rename_i hh
            simp only [Tr.holds] at h
            obtain ⟨_, kk, _, hkk, k2⟩ := regRun_dead _ _ _ _ _ _ _ hr h.1 ha
            exact region_dead E hz hN (dynD hd hdy) (by simpa using hkk) k2 hR fun s1 β' a' w1 w' hg hR' hl => by
              rw [kwp_panic]; exact hD e s s1 β' a' w1 w' h.2 hh hg hR' hl
          · exact h.elim
        · exact h.elim
      · rename_i j b hr
        split at h
        · rename_i hj
          simp only [Tr.holds] at h
          cases hb : b with
          | true => exact ih2 ops d dy ((j, true) :: asm) k s β a w hn hm hc hk hd (hb ▸ asmOK_cons hj _ _ _ _ _ hr ha) (h.1 hb) hR id
          | false => exact ih2 ops d dy ((j, false) :: asm) k s β a w hn hm hc hk hd (hb ▸ asmOK_cons hj _ _ _ _ _ hr ha) (h.2 hb) hR id
        · exact h.elim
      · exact h.elim
end
end Go.Adit

namespace Go.Adit
open Go.RowKit

def SC.norm : SC → SC
  | .bool b => .bool (.sym b.lb)
  | .int k n => .int k (.sym n.li)
  | .byte y => .int .u8 (.sym (y.toNat : Int))
  | x => x
def D.norm1 : D → D
  | .s x => .s x.norm
  | .agg l => .agg (l.map SC.norm)
  | .tup l => .tup l
def D.norm : D → D
  | .tup l => .tup (l.map D.norm1)
  | d => d.norm1
def Blk.norm (b : Blk) : Blk := ⟨b.cells.map SC.norm, 0⟩

def normT (v : List (Nat × D)) : List (Nat × D) := v.map fun x => (x.1, x.2.norm)
def normM (v : List (Nat × Blk)) : List (Nat × Blk) := v.map fun x => (x.1, x.2.norm)

section
variable {P : Program} {w0 : Base} {N : Nat} {s s' : St} {β : Nat → Option Nat} {a : Act} {w : World} {c : Cfg} {z : Zs} {Qf : Exit → Act → World → Prop} {own : Nat → Prop}

theorem repS_norm {x : SC} {v : Value} : RepS β own w x.norm v ↔ RepS β own w x v := by
  cases x with
  | byte y =>
    simp only [SC.norm, RepS, IV.li]
    refine ⟨fun h => h.1, fun h => ⟨h, ?_⟩⟩
    have := y.toNat_lt
    unfold inR
    have h1 : IntKind.min .u8 = 0 := rfl
    have h2 : IntKind.max .u8 = 255 := rfl
    rw [h1, h2]
    omega
  | bool b => cases b <;> simp [SC.norm, RepS, BV.lb]
  | int k n => cases n <;> simp [SC.norm, RepS, IV.li]
  | _ => exact Iff.rfl

theorem repL_norm : ∀ {l : List SC} {vs : List Value}, RepL β own w (l.map SC.norm) vs ↔ RepL β own w l vs
  | [], [] => Iff.rfl
  | x :: l, v :: vs => by simp only [List.map_cons, RepL, repS_norm, repL_norm (l := l)]
  | [], _ :: _ => Iff.rfl
  | _ :: _, [] => Iff.rfl

theorem rep1_norm {d : D} {v : Value} : Rep1 β own w d.norm1 v ↔ Rep1 β own w d v := by
  cases d with
  | s x => exact repS_norm
  | agg l => simp only [D.norm1, Rep1, repL_norm]
  | tup l => exact Iff.rfl

theorem repLs_norm : ∀ {l : List D} {vs : List Value}, RepLs β own w (l.map D.norm1) vs ↔ RepLs β own w l vs
  | [], [] => Iff.rfl
  | x :: l, v :: vs => by simp only [List.map_cons, RepLs, rep1_norm, repLs_norm (l := l)]
  | [], _ :: _ => Iff.rfl
  | _ :: _, [] => Iff.rfl

theorem repD_norm {d : D} {v : Value} : RepD β own w d.norm v ↔ RepD β own w d v := by
  cases d with
  | s x => exact rep1_norm (d := .s x)
  | agg l => exact rep1_norm (d := .agg l)
  | tup l => simp only [D.norm, RepD, repLs_norm]

theorem repD_eq {d r : D} (h : d.norm = r.norm) {v : Value} (hv : RepD β own w d v) : RepD β own w r v := repD_norm.1 (h ▸ repD_norm.2 hv)

theorem flat_norm {x : SC} : x.norm.flat = x.flat := by cases x <;> rfl
theorem flats_norm {l : List SC} : flats (l.map SC.norm) = flats l := by
  induction l with
  | nil => rfl
  | cons x l ih => simp only [flats, List.map_cons, List.all_cons, flat_norm] at ih ⊢; rw [ih]

theorem lookT_norm : ∀ {v : List (Nat × D)} {t : Nat}, lookT (normT v) t = (lookT v t).map D.norm
  | [], t => rfl
  | (u, x) :: v, t => by
    have ih := lookT_norm (v := v) (t := t)
    simp only [normT, List.map_cons, lookT] at ih ⊢
    cases h : Nat.beq t u with
    | true => rfl
    | false => exact ih

theorem lookM_norm : ∀ {v : List (Nat × Blk)} {t : Nat}, lookM (normM v) t = (lookM v t).map Blk.norm
  | [], t => rfl
  | (u, x) :: v, t => by
    have ih := lookM_norm (v := v) (t := t)
    simp only [normM, List.map_cons, lookM] at ih ⊢
    cases h : Nat.beq t u with
    | true => rfl
    | false => exact ih

theorem Rel.norm {v v' : List (Nat × D)} {m m' : List (Nat × Blk)} (h : Rel w0 N (St.of v m) β a w) (hv : normT v = normT v') (hm : normM m = normM m') : Rel w0 N (St.of v' m') β a w := by
  refine ⟨h.sz, fun t d hd => ?_, fun n blk hn => ?_, fun n hh hn => ?_, fun n hh => ?_, h.inj, h.new, h.bel, h.dfr, h.lnt⟩
  · have h1 : (lookT v t).map D.norm = some d.norm := by
      have hd' : lookT v' t = some d := hd
      rw [← lookT_norm, hv, lookT_norm, hd']; rfl
    obtain ⟨d', e1, e2⟩ := Option.map_eq_some_iff.1 h1
    obtain ⟨u, g1, g2⟩ := h.tm t d' e1
    exact ⟨u, g1, repD_eq e2 g2⟩
  · have h1 : (lookM m n).map Blk.norm = some blk.norm := by
      have hd' : lookM m' n = some blk := hn
      rw [← lookM_norm, hm, lookM_norm, hd']; rfl
    obtain ⟨b', e1, e2⟩ := Option.map_eq_some_iff.1 h1
    obtain ⟨b, cs, ty, g1, g2, g3, g4⟩ := h.mem n b' e1
    have e3 : b'.cells.map SC.norm = blk.cells.map SC.norm := congrArg Blk.cells e2
    exact ⟨b, cs, ty, g1, g2, repL_norm.1 (e3 ▸ repL_norm.2 g3), by rw [← flats_norm, ← e3, flats_norm]; exact g4⟩
  · refine h.dom n hh ?_
    have hd' : lookM m' n = none := hn
    have h1 : (lookM m n).map Blk.norm = none := by rw [← lookM_norm, hm, lookM_norm, hd']; rfl
    cases e : lookM m n with
    | none => exact e
    | some x => rw [e] at h1; cases h1
  · have hd' : lookM m n = none := h.nhid n hh
    have h1 : (lookM m' n).map Blk.norm = none := by rw [← lookM_norm, ← hm, lookM_norm, hd']; rfl
    cases e : lookM m' n with
    | none => exact e
    | some x => rw [e] at h1; cases h1

/-- at a mark, a round of the loop is due -/
def bkc (P : Program) (Qf : Exit → Act → World → Prop) (body : Code) : Nat → Nat → Act → World → Prop
  | 0, _ => fun _ _ => False
  | n + 1, i => if i = n then fun a w => match loopAt 0 [] body n with
      | some (x, k) => iwp P (.inLoop x) (kwp P Qf (bkc P Qf body n) k) a w
      | none => False
    else bkc P Qf body n i

theorem bkc_of {body : Code} {i : Nat} {x : Code} {k : List K} (h : loopAt 0 [] body i = some (x, k)) : ∀ n, i < n → bkc P Qf body n i = iwp P (.inLoop x) (kwp P Qf (bkc P Qf body i) k)
  | 0, h0 => by omega
  | n + 1, h0 => by
    unfold bkc
    by_cases e : i = n
    · subst e; rw [if_pos rfl]; funext a w; simp only [h]
    · rw [if_neg e]; exact bkc_of h n (by omega)

theorem bkc_low {body : Code} {j i : Nat} (h : j < i) : ∀ n, i ≤ n → bkc P Qf body n j = bkc P Qf body i j
  | 0, h0 => by omega
  | n + 1, h0 => by
    by_cases e : i = n + 1
    · rw [e]
    · rw [← bkc_low h n (by omega)]
      conv => lhs; unfold bkc
      rw [if_neg (by omega)]

/-- a stop at the head of a loop -/
def Arr {γ : Nat → Type} (T : (i : Nat) → γ i → List (Nat × D) × List (Nat × Blk)) (p : (i : Nat) → γ i → Prop) (i : Nat) (v : List (Nat × D)) (m : List (Nat × Blk)) : Prop :=
  ∃ g, p i g ∧ normT v = normT (T i g).1 ∧ normM m = normM (T i g).2

def SC.bare : SC → Bool
  | .exts _ o => !o
  | .gs _ _ _ | .gv _ _ | .own _ => false
  | _ => true
def D.bare : D → Bool
  | .s x => x.bare
  | .agg l => l.all SC.bare
  | .tup _ => false

theorem RepS.bare {own' : Nat → Prop} {x : SC} (hx : x.bare = true) {v : Value} (h : RepS β own w x v) : RepS β own' w x v := by
  cases x with
  | exts l o =>
    obtain ⟨a, cap, e1, e2, e3⟩ := h
    refine ⟨a, cap, e1, e2, e3.imp id ?_⟩
    rintro ⟨b, off, f1, f2, ⟨f3, f4⟩, f5⟩
    exact ⟨b, off, f1, f2, ⟨f3, fun e => by subst e; simp [SC.bare] at hx⟩, f5⟩
  | gs | gv | own => simp [SC.bare] at hx
  | _ => exact h

theorem RepL.bare {own' : Nat → Prop} : ∀ {l : List SC} {vs : List Value}, l.all SC.bare = true → RepL β own w l vs → RepL β own' w l vs
  | [], [], _, _ => trivial
  | x :: l, v :: vs, hl, h => by
    simp only [List.all_cons, Bool.and_eq_true] at hl
    exact ⟨h.1.bare hl.1, RepL.bare hl.2 h.2⟩
  | [], _ :: _, _, h => h.elim
  | _ :: _, [], _, h => h.elim

theorem RepD.bare {own' : Nat → Prop} {d : D} (hd : d.bare = true) {v : Value} (h : Rep1 β own w d v) : RepD β own' w d v := by
  cases d with
  | s x => exact RepS.bare hd h
  | agg l => obtain ⟨cs, e1, e2⟩ := h; exact ⟨cs, e1, e2.bare hd⟩
  | tup l => simp [D.bare] at hd

theorem RepLs.get : ∀ {l : List D} {vs : List Value} {u : Nat} {d : D}, RepLs β own w l vs → l[u]? = some d → ∃ v, vs[u]? = some v ∧ Rep1 β own w d v
  | [], _, u, d, _, h => by simp at h
  | x :: l, v :: vs, 0, d, hr, h => by simp at h; subst h; exact ⟨v, rfl, hr.1⟩
  | x :: l, v :: vs, u + 1, d, hr, h => RepLs.get (l := l) (vs := vs) (u := u) hr.2 (by simpa using h)
  | _ :: _, [], _, _, h, _ => h.elim

theorem RepLs.length : ∀ {l : List D} {vs : List Value}, RepLs β own w l vs → vs.length = l.length
  | [], [], _ => rfl
  | _ :: _, _ :: _, h => by simp [RepLs.length h.2]
  | [], _ :: _, h => h.elim
  | _ :: _, [], h => h.elim

theorem RepS.clean {x : SC} (hx : x.clean = true) {v : Value} (h : RepS β own w x v) : RepS (fun _ => none) own w x v := by
  cases x with
  | exts l o =>
    obtain ⟨a, cap, e1, e2, e3⟩ := h
    refine ⟨a, cap, e1, e2, e3.imp id ?_⟩
    rintro ⟨b, off, f1, f2, ⟨f3, f4⟩, f5⟩
    exact ⟨b, off, f1, f2, ⟨fun n e => (nomatch e), f4⟩, f5⟩
  | own gl => exact ListAt.imp h fun b hb => ⟨(fun n e => by cases e), hb.2⟩
  | bool | int | byte | str => exact h
  | _ => simp [SC.clean] at hx

theorem RepL.clean : ∀ {l : List SC} {vs : List Value}, l.all SC.clean = true → RepL β own w l vs → RepL (fun _ => none) own w l vs
  | [], [], _, _ => trivial
  | x :: l, v :: vs, hl, h => by
    simp only [List.all_cons, Bool.and_eq_true] at hl
    exact ⟨h.1.clean hl.1, RepL.clean hl.2 h.2⟩
  | [], _ :: _, _, h => h.elim
  | _ :: _, [], _, h => h.elim

theorem Rep1.clean {d : D} (hd : d.clean = true) {v : Value} (h : Rep1 β own w d v) : Rep1 (fun _ => none) own w d v := by
  cases d with
  | s x => exact RepS.clean hd h
  | agg l => obtain ⟨cs, e1, e2⟩ := h; exact ⟨cs, e1, e2.clean hd⟩
  | tup l => exact h

theorem RepLs.clean : ∀ {l : List D} {vs : List Value}, l.all D.clean = true → RepLs β own w l vs → RepLs (fun _ => none) own w l vs
  | [], [], _, _ => trivial
  | x :: l, v :: vs, hl, h => by
    simp only [List.all_cons, Bool.and_eq_true] at hl
    exact ⟨h.1.clean hl.1, RepLs.clean hl.2 h.2⟩
  | [], _ :: _, _, h => h.elim
  | _ :: _, [], _, h => h.elim

theorem RepD.clean {d : D} (hd : d.cleanT = true) {v : Value} (h : RepD β own w d v) : RepD (fun _ => none) own w d v := by
  cases d with
  | s x => exact RepS.clean hd h
  | agg l => exact Rep1.clean (d := .agg l) hd h
  | tup l => obtain ⟨vs, e1, e2⟩ := h; exact ⟨vs, e1, e2.clean hd⟩

theorem RepS.cleanOnly {b : Nat} (hb : ¬ own b) {x : SC} (hx : x.clean = true) {v : Value} (h : RepS β own w x v) : RepS (onlyB b) own w x v := by
  cases x with
  | exts l o =>
    obtain ⟨a, cap, e1, e2, e3⟩ := h
    simp only [SC.clean] at hx
    cases o with
    | false => simp at hx
    | true =>
      refine ⟨a, cap, e1, e2, e3.imp id ?_⟩
      rintro ⟨b', off, f1, f2, ⟨f3, f4⟩, f5⟩
      exact ⟨b', off, f1, f2, ⟨onlyB_far (fun e => hb (e ▸ f4 rfl)), f4⟩, f5⟩
  | own gl => exact ListAt.imp h fun b' hb' => ⟨onlyB_far (fun e => hb (e ▸ hb'.2)), hb'.2⟩
  | bool | int | byte | str => exact h
  | _ => simp [SC.clean] at hx

theorem RepL.cleanOnly {b : Nat} (hb : ¬ own b) : ∀ {l : List SC} {vs : List Value}, l.all SC.clean = true → RepL β own w l vs → RepL (onlyB b) own w l vs
  | [], [], _, _ => trivial
  | x :: l, v :: vs, hl, h => by
    simp only [List.all_cons, Bool.and_eq_true] at hl
    exact ⟨h.1.cleanOnly hb hl.1, RepL.cleanOnly hb hl.2 h.2⟩
  | [], _ :: _, _, h => h.elim
  | _ :: _, [], _, h => h.elim

theorem Rep1.cleanOnly {b : Nat} (hb : ¬ own b) {d : D} (hd : d.clean = true) {v : Value} (h : Rep1 β own w d v) : Rep1 (onlyB b) own w d v := by
  cases d with
  | s x => exact RepS.cleanOnly hb hd h
  | agg l => obtain ⟨cs, e1, e2⟩ := h; exact ⟨cs, e1, e2.cleanOnly hb hd⟩
  | tup l => exact h

theorem RepLs.cleanOnly {b : Nat} (hb : ¬ own b) : ∀ {l : List D} {vs : List Value}, l.all D.clean = true → RepLs β own w l vs → RepLs (onlyB b) own w l vs
  | [], [], _, _ => trivial
  | x :: l, v :: vs, hl, h => by
    simp only [List.all_cons, Bool.and_eq_true] at hl
    exact ⟨h.1.cleanOnly hb hl.1, RepLs.cleanOnly hb hl.2 h.2⟩
  | [], _ :: _, _, h => h.elim
  | _ :: _, [], _, h => h.elim

theorem RepD.cleanOnly {b : Nat} (hb : ¬ own b) {d : D} (hd : d.cleanT = true) {v : Value} (h : RepD β own w d v) : RepD (onlyB b) own w d v := by
  cases d with
  | s x => exact RepS.cleanOnly hb hd h
  | agg l => exact Rep1.cleanOnly (d := .agg l) hb hd h
  | tup l => obtain ⟨vs, e1, e2⟩ := h; exact ⟨vs, e1, e2.cleanOnly hb hd⟩

theorem tmps_args {d : List D} {own' : Nat → Prop} (hb : d.all D.bare = true) {vs : List Value} (h : RepLs β own w d vs) {n t : Nat} {x : D} (hd : d[t]? = some x) :
    ∃ v, ((⟨vs⟩ : Array Value) ++ Array.replicate (n - (⟨vs⟩ : Array Value).size) undef)[t]? = some v ∧ RepD β own' w x v := by
  obtain ⟨v, g1, g2⟩ := h.get hd
  refine ⟨v, ?_, RepD.bare (List.all_eq_true.1 hb x (List.mem_of_getElem? hd)) g2⟩
  have : t < vs.length := by
    rcases Nat.lt_or_ge t vs.length with h | h
    · exact h
    · rw [List.getElem?_eq_none h] at g1; cases g1
  rw [Array.getElem?_append_left (by simpa using this)]
  simpa using g1

theorem Kept.refl {b : Base} : Kept b b.w := ⟨rfl, rfl, rfl, Nat.le_refl _, fun _ _ _ => rfl⟩

theorem rel0 {args : List D} (hb : args.all D.bare = true) {vs : List Value} (h : RepLs (fun _ => none) (fun _ => True) w args vs) {n : Nat} (hn : args.length ≤ n) :
    Rel ⟨w, fun _ => False, [], noPin⟩ n (st0 args) (fun _ => none) { tmps := (⟨vs⟩ : Array Value) ++ Array.replicate (n - (⟨vs⟩ : Array Value).size) undef, defers := [] } w := by
  have hlen := h.length
  exact ⟨by simp; omega, fun t d hd => tmps_args hb h hd, fun n blk hn => (by simp [st0] at hn), fun _ _ _ => rfl, fun _ _ => rfl, fun n n' b h => (by cases h), fun n b h => (by cases h), Kept.refl, rfl, fun n b hn h => (by cases h)⟩

theorem onlyB_at (b : Nat) : onlyB b lentName = some b := by simp [onlyB]

theorem onlyB_some {b n b' : Nat} (h : onlyB b n = some b') : n = lentName ∧ b' = b := by
  unfold onlyB at h
  split at h
  · rename_i e; simp only [Option.some.injEq] at h; exact ⟨Nat.eq_of_beq_eq_true e, h.symm⟩
  · cases h

theorem relM {cells : List SC} {args : List D} (hf : flats cells = true) (hc : cells.all SC.bare = true) (hb : args.all D.bare = true) {b : Nat} {cs : List Value} {ty : TypeId} {vs : List Value} (hw : w.heap[b]? = some (.cells ⟨cs⟩ ty (0, 0)))
    (h1 : RepL (onlyB b) (fun _ => True) w cells cs) (h : RepLs (onlyB b) (fun _ => True) w args vs) {n : Nat} (hn : args.length + 1 ≤ n) :
    Rel ⟨w, fun k => k = b, [], pinB b⟩ n (stM cells args) (onlyB b) { tmps := (⟨.pointer (some ⟨b, 0, none⟩) :: vs⟩ : Array Value) ++ Array.replicate (n - (⟨.pointer (some ⟨b, 0, none⟩) :: vs⟩ : Array Value).size) undef, defers := [] } w := by
  have hlen := h.length
  have hbs : b < w.heap.size := by
    rcases Nat.lt_or_ge b w.heap.size with h | h
    · exact h
    · rw [Array.getElem?_eq_none h] at hw; cases hw
  have hp : RepLs (onlyB b) (fun _ => True) w (.s (.ptr lentName 0) :: args) (.pointer (some ⟨b, 0, none⟩) :: vs) := ⟨⟨b, onlyB_at b, rfl⟩, h⟩
  refine ⟨by simp; omega, fun t d hd => tmps_args (by simpa [D.bare, SC.bare] using hb) hp hd, fun m blk hm => ?_, fun m hh hm => ?_, fun m hh => ?_, fun m m' x e e' => ?_, fun m x e => ?_, Kept.refl, rfl, fun n x hn hx b' h' => ?_⟩
  · simp only [stM] at hm
    split at hm
    · rename_i e
      simp only [Option.some.injEq] at hm
      subst hm
      obtain rfl := Nat.eq_of_beq_eq_true e
      exact ⟨b, cs, ty, onlyB_at b, hw, h1.bare hc, hf⟩
    · cases hm
  · simp only [stM] at hm
    unfold onlyB
    split at hm
    · cases hm
    · rename_i e; simp only [e]
  · simp only [stM]
    split
    · rename_i e
      obtain rfl := Nat.eq_of_beq_eq_true e
      exact absurd hh (by decide)
    · rfl
  · rw [(onlyB_some e).1, (onlyB_some e').1]
  · obtain ⟨rfl, rfl⟩ := onlyB_some e; exact ⟨.inr rfl, hbs⟩
  · simp only [pinB, Option.some.injEq] at hx; obtain ⟨e1, e2⟩ := onlyB_some h'; subst e1; omega

theorem loopAt_noReg : ∀ (c : Code) (i : Nat) (k : List K) (j : Nat) (x : Code) (kk : List K), loopAt i k c j = some (x, kk) → noReg k = true → noReg kk = true := by
  intro c
  induction c with
  | seq a b iha ihb =>
    intro i k j x kk h hn
    simp only [loopAt] at h
    split at h
    · rename_i r hx
      simp only [Option.some.injEq] at h
      subst h
      exact iha _ _ _ _ _ hx hn
    · exact ihb _ _ _ _ _ h hn
  | cond q a b iha ihb =>
    intro i k j x kk h hn
    simp only [loopAt] at h
    split at h
    · rename_i r hx
      simp only [Option.some.injEq] at h
      subst h
      exact iha _ _ _ _ _ hx hn
    · exact ihb _ _ _ _ _ h hn
  | block id a ih => intro i k j x kk h hn; simp only [loopAt] at h; exact ih _ _ _ _ _ h hn
  | scope a ih => intro i k j x kk h hn; simp only [loopAt] at h; exact ih _ _ _ _ _ h hn
  | loop b ih =>
    intro i k j x kk h hn
    simp only [loopAt] at h
    split at h
    · simp only [Option.some.injEq, Prod.mk.injEq] at h
      obtain ⟨_, rfl⟩ := h
      exact hn
    · exact ih _ _ _ _ _ h hn
  | _ => intro i k j x kk h; simp [loopAt] at h

/-- a body is carried out as its tree says -/
theorem tree_wp (E : Env P c z) (hz : ZeroFlat c z) {body : Code} (hok : regsOk c body = true) (hN : c.n = N) {rs : List ResultVar} {R : D → List SC → Prop} {Rd : Int → Prop}
    (hQ : ∀ (A : Nat → List (Nat × D) → List (Nat × Blk) → Prop) s β a w, (finish c rs s).holds R Rd A → Rel w0 N s β a w → Qf .ret a w ∧ Qf .normal a w)
    (hD : ∀ n s s1 β a w w', Rd n → c.hold s = true → Grow c s s1 → Rel w0 N s1 β a w → Left w0 N c s1 β a w' → Qf (.panic (errChain n)) a w')
    {γ : Nat → Type} (T : (i : Nat) → γ i → List (Nat × D) × List (Nat × Blk)) (M : (i : Nat) → γ i → Nat) (n0 : Nat)
    (hmain : (sym c z rs n0 [.code 0 body] s).holds R Rd (Arr T fun _ _ => True))
    (hround : ∀ i g, i < nloops body → (sym c z rs n0 (roundOf body i) (St.of (T i g).1 (T i g).2)).holds R Rd (Arr T fun j g' => M j g' < M i g))
    (hR : Rel w0 N s β a w) : body.wp P Qf a w := by
  let BK := bkc P Qf body (nloops body)
  have hBK : ∀ i x k, loopAt 0 [] body i = some (x, k) → BK i = iwp P (.inLoop x) (kwp P Qf BK k) := by
    intro i x k hx
    have hi : i < nloops body := by have := loopAt_in hx; omega
    have h1 := bkc_of (P := P) (Qf := Qf) hx (nloops body) hi
    rw [show BK i = bkc P Qf body (nloops body) i from rfl, h1, kwp_marks (fun j hj => (bkc_low hj (nloops body) (by omega)).symm) k (round_body hx hok).2.2.2]
  have key : ∀ n i g, M i g < n → ∀ x k, loopAt 0 [] body i = some (x, k) → ∀ β a w', Rel w0 N (St.of (T i g).1 (T i g).2) β a w' →
      x.wp P (Exit.then (iwp P (.inLoop x) (kwp P Qf BK k)) (kwp P Qf BK k)) a w' := by
    intro n
    induction n with
    | zero => intro i g h; omega
    | succ n ih =>
      intro i g hM x k hx β a w' hR
      have hi : i < nloops body := by have := loopAt_in hx; omega
      obtain ⟨c1, c2, c3, c4⟩ := round_body hx hok
      have hr := hround i g hi
      have hro : roundOf body i = .code (i + 1) x :: .mark i :: k := by unfold roundOf; rw [hx]
      rw [hro] at hr
      have := (sym_sound (Qf := Qf) (BK := BK) (body := body) (A := Arr T fun j g' => M j g' < M i g) E hz hN (hQ _) hD (fun j v m β a w'' x' k' hA hx' hR' => by
          obtain ⟨g', hg, e1, e2⟩ := hA
          exact wp_loop_iwp (ih j g' (by omega) x' k' hx' β a w'' (hR'.norm e1 e2))) (fun j v m β a w'' hj hA hR' => by
          obtain ⟨g', hg, e1, e2⟩ := hA
          obtain ⟨⟨x', k'⟩, hx'⟩ := Option.isSome_iff_exists.1 ((loopAt_isSome body 0 j []).2 ⟨Nat.zero_le _, by omega⟩)
          rw [hBK j x' k' hx']
          exact iwp_loop (ih j g' (by omega) x' k' hx' β a w'' (hR'.norm e1 e2))) n0).1 (.code (i + 1) x :: .mark i :: k) _ β a w' (loopAt_noReg body 0 [] i x k hx rfl) ⟨hi, c4.mono (by omega)⟩ c1 (fun y hy => by
            rcases List.mem_cons.1 hy with rfl | hy
            · exact c2
            rcases List.mem_cons.1 hy with rfl | hy
            · rfl
            · exact c3 y hy) hr hR
      simp only [kwp] at this
      refine wp_mono this fun e a w h => ?_
      cases e with
      | normal => simp only [kwp, hBK i x k hx] at h; exact h
      | _ => exact h
  have := (sym_sound (Qf := Qf) (BK := BK) (body := body) (A := Arr T fun _ _ => True) E hz hN (hQ _) hD (fun j v m β a w'' x' k' hA hx' hR' => by
      obtain ⟨g', hg, e1, e2⟩ := hA
      exact wp_loop_iwp (key _ j g' (Nat.lt_succ_self _) x' k' hx' β a w'' (hR'.norm e1 e2))) (fun j v m β a w'' hj hA hR' => by
      obtain ⟨g', hg, e1, e2⟩ := hA
      obtain ⟨⟨x', k'⟩, hx'⟩ := Option.isSome_iff_exists.1 ((loopAt_isSome body 0 j []).2 ⟨Nat.zero_le _, by omega⟩)
      rw [hBK j x' k' hx']
      exact iwp_loop (key _ j g' (Nat.lt_succ_self _) x' k' hx' β a w'' (hR'.norm e1 e2))) n0).1 [.code 0 body] _ _ _ w rfl trivial ⟨fun _ _ e => e, trivial⟩ (fun y hy => by
        rcases List.mem_cons.1 hy with rfl | hy
        · exact hok
        · cases hy) hmain hR
  simp only [kwp] at this
  exact this

/-- what is told of the function itself -/
structure Fn (P : Program) (c : Cfg) (f : FuncId) (fn : Func) (body : Code) : Prop where
  at_ : P.funcs[f]? = some fn
  has_ : fn.body = some body ∨ fn.body = some (.scope body)
  ok : regsOk c body = true
  nm : (fn.name == "runtime.NumGoroutine") = false
  sz : c.n = fn.ntmps

theorem Fn.has {f : FuncId} {fn : Func} {body : Code} (F : Fn P c f fn body) : HasBody P f := ⟨fn, F.at_, F.nm, by rcases F.has_ with h | h <;> simp [h]⟩

theorem calls_of_body {c : Cfg} {f : FuncId} {fn : Func} {body : Code} (F : Fn P c f fn body) {args : Array Value} {R : Ending → World → Prop}
    (h : body.wp P (Exit.noGoto (bodyPost P fn R)) { tmps := args ++ Array.replicate (fn.ntmps - args.size) undef, defers := [] } w) : Calls P f args w R := by
  rcases F.has_ with hb | hb
  · refine calls_of_wp F.at_ hb (wp_mono h fun e a w h => ?_)
    cases e <;> first | exact h | exact h.elim
  · exact calls_of_wp F.at_ hb (wp_scope_straight h)

theorem Kept.below {w' : World} {dl : List Deferred} {lb : Nat → Option Nat} (h : Kept ⟨w, fun _ => False, dl, lb⟩ w') : Below w.heap.size w w' := ⟨h.os, h.tape, h.output, h.size, fun k hk => h.block k hk (fun h => h)⟩

theorem con_tree (E : Env P c z) (hz : ZeroFlat c z) {f : FuncId} {fn : Func} {body : Code} (F : Fn P c f fn body) {args : List D} (hargs : args.length ≤ fn.ntmps) (hb : args.all D.bare = true) {r : D}
    {γ : Nat → Type} (T : (i : Nat) → γ i → List (Nat × D) × List (Nat × Blk)) (M : (i : Nat) → γ i → Nat) (n0 : Nat)
    (hmain : (sym c z fn.results.toList n0 [.code 0 body] (st0 args)).holds (fun d _ => d.norm = r.norm) (fun _ => False) (Arr T fun _ _ => True))
    (hround : ∀ i g, i < nloops body → (sym c z fn.results.toList n0 (roundOf body i) (St.of (T i g).1 (T i g).2)).holds (fun d _ => d.norm = r.norm) (fun _ => False) (Arr T fun j g' => M j g' < M i g)) :
    Con P f args r := by
  refine ⟨F.has, fun w vs hv => calls_of_body F ?_⟩
  refine tree_wp E hz F.ok F.sz (fun A s β a w' h hR => ?_) (fun n s s1 β a w w' h => h.elim) T M n0 hmain hround (rel0 hb hv hargs)
  obtain ⟨v, d, l, g1, g2, g3, g4, _⟩ := finish_ok E hR h
  have : a.defers = [] ∧ ∃ v, (results fn a.tmps).run P w' = .ok v w' ∧ ∃ u, Ending.returned v = .returned u ∧ RepD (fun _ => none) (fun b => w.heap.size ≤ b) w' r u ∧ Below w.heap.size w w' :=
    ⟨hR.dfr, v, g1, v, rfl, repD_eq g4 (g2.clean g3), hR.bel.below⟩
  exact ⟨this, this⟩

theorem conDie_tree (E : Env P c z) (hz : ZeroFlat c z) {f : FuncId} {fn : Func} {body : Code} (F : Fn P c f fn body) {args : List D} (hargs : args.length ≤ fn.ntmps) (hb : args.all D.bare = true) {e : Int}
    {γ : Nat → Type} (T : (i : Nat) → γ i → List (Nat × D) × List (Nat × Blk)) (M : (i : Nat) → γ i → Nat) (n0 : Nat)
    (hmain : (sym c z fn.results.toList n0 [.code 0 body] (st0 args)).holds (fun _ _ => False) (fun n => n = e) (Arr T fun _ _ => True))
    (hround : ∀ i g, i < nloops body → (sym c z fn.results.toList n0 (roundOf body i) (St.of (T i g).1 (T i g).2)).holds (fun _ _ => False) (fun n => n = e) (Arr T fun j g' => M j g' < M i g)) :
    ConDie P f args e := by
  refine ⟨F.has, fun w vs hv => calls_of_body F ?_⟩
  refine tree_wp E hz F.ok F.sz (fun A s β a w' h hR => ?_) (fun n s s1 β a w1 w' h _ _ _ hl => ?_) T M n0 hmain hround (rel0 hb hv hargs)
  · obtain ⟨v, d, l, g1, g2, g3, g4, _⟩ := finish_ok E hR h
    exact g4.elim
  · subst h
    obtain ⟨s2, β2, h2, _⟩ := hl.ex
    exact ⟨h2.dfr, rfl, h2.bel.below⟩

theorem conM_tree (E : Env P c z) (hz : ZeroFlat c z) {f : FuncId} {fn : Func} {body : Code} (F : Fn P c f fn body) {cells cells' : List SC} {args : List D} (hargs : args.length + 1 ≤ fn.ntmps) (hb : args.all D.bare = true)
    (hf : flats cells = true) (hc : cells.all SC.bare = true) {r : D}
    {γ : Nat → Type} (T : (i : Nat) → γ i → List (Nat × D) × List (Nat × Blk)) (M : (i : Nat) → γ i → Nat) (n0 : Nat)
    (hmain : (sym c z fn.results.toList n0 [.code 0 body] (stM cells args)).holds (fun d l => d.norm = r.norm ∧ l.map SC.norm = cells'.map SC.norm ∧ l ≠ []) (fun _ => False) (Arr T fun _ _ => True))
    (hround : ∀ i g, i < nloops body → (sym c z fn.results.toList n0 (roundOf body i) (St.of (T i g).1 (T i g).2)).holds (fun d l => d.norm = r.norm ∧ l.map SC.norm = cells'.map SC.norm ∧ l ≠ []) (fun _ => False) (Arr T fun j g' => M j g' < M i g)) :
    ConM P f cells args r cells' := by
  refine ⟨F.has, fun w b cs ty vs hw h1 hv => calls_of_body F ?_⟩
  refine tree_wp E hz F.ok F.sz (fun A s β a w' h hR => ?_) (fun n s s1 β a w w' h => h.elim) T M n0 hmain hround (relM hf hc hb hw h1 hv hargs)
  obtain ⟨v, d, l, g1, g2, g3, ⟨g4, g5, g6⟩, g7, g8⟩ := finish_ok E hR h
  have hbs : ¬ (w.heap.size ≤ b) := by
    intro hge; rw [Array.getElem?_eq_none hge] at hw; cases hw
  rcases g8 with ⟨_, rfl⟩ | ⟨blk, hm, rfl⟩
  · exact absurd rfl g6
  · obtain ⟨b', cs', ty', k1, k2, k3, k4⟩ := hR.mem _ _ hm
    obtain rfl : b' = b := by have := hR.lnt lentName (b + 0) (Nat.le_refl _) (by simp [pinB]) b' k1; omega
    have : a.defers = [] ∧ ∃ v, (results fn a.tmps).run P w' = .ok v w' ∧ ∃ u cs' ty', Ending.returned v = .returned u ∧ RepD (onlyB b') (fun b => w.heap.size ≤ b) w' r u ∧
        w'.heap[b']? = some (.cells ⟨cs'⟩ ty' (0, 0)) ∧ RepL (onlyB b') (fun b => w.heap.size ≤ b) w' cells' cs' ∧ Kept ⟨w, fun k => k = b', [], pinB b'⟩ w' :=
      ⟨hR.dfr, v, g1, v, cs', ty', rfl, repD_eq g4 (g2.cleanOnly hbs g3), k2, repL_norm.1 (g5 ▸ repL_norm.2 (k3.cleanOnly hbs g7)), hR.bel⟩
    exact ⟨this, this⟩

theorem conMDie_tree (E : Env P c z) (hz : ZeroFlat c z) {f : FuncId} {fn : Func} {body : Code} (F : Fn P c f fn body) {cells : List SC} {args : List D} (hargs : args.length + 1 ≤ fn.ntmps) (hb : args.all D.bare = true)
    (hf : flats cells = true) (hc : cells.all SC.bare = true) {e : Int}
    {γ : Nat → Type} (T : (i : Nat) → γ i → List (Nat × D) × List (Nat × Blk)) (M : (i : Nat) → γ i → Nat) (n0 : Nat)
    (hmain : (sym c z fn.results.toList n0 [.code 0 body] (stM cells args)).holds (fun _ _ => False) (fun n => n = e) (Arr T fun _ _ => True))
    (hround : ∀ i g, i < nloops body → (sym c z fn.results.toList n0 (roundOf body i) (St.of (T i g).1 (T i g).2)).holds (fun _ _ => False) (fun n => n = e) (Arr T fun j g' => M j g' < M i g)) :
    ConMDie P f cells args e := by
  refine ⟨F.has, fun w b cs ty vs hw h1 hv => calls_of_body F ?_⟩
  refine tree_wp E hz F.ok F.sz (fun A s β a w' h hR => ?_) (fun n s s1 β a w1 w' h _ _ _ hl => ?_) T M n0 hmain hround (relM hf hc hb hw h1 hv hargs)
  · obtain ⟨v, d, l, g1, g2, g3, g4, _⟩ := finish_ok E hR h
    exact g4.elim
  · subst h
    obtain ⟨s2, β2, h2, _⟩ := hl.ex
    exact ⟨h2.dfr, rfl, h2.bel⟩
end
end Go.Adit
