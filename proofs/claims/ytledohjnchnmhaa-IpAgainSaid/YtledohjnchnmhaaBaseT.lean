/- Part of the proofs of the laws: lemmas and contracts, no statement of its own. -/
import Derived.KernelRfl
import Derived.Test.YtledohjnchnmhaaEqT
set_option linter.unusedVariables false
set_option linter.unusedSimpArgs false
namespace Go.Adit
open Go.RowKit

def eqPairs : List (Nat × Nat) → List (Nat × Nat) → Bool
  | [], [] => true
  | (a, b) :: l, (c, d) :: r => Nat.beq a c && (Nat.beq b d && eqPairs l r)
  | _, _ => false

theorem eqPairs_of : ∀ {l r : List (Nat × Nat)}, eqPairs l r = true → l = r
  | [], [], _ => rfl
  | (a, b) :: l, (c, d) :: r, h => by
    simp only [eqPairs, Bool.and_eq_true] at h
    rw [Nat.eq_of_beq_eq_true h.1, Nat.eq_of_beq_eq_true h.2.1, eqPairs_of h.2.2]
  | [], _ :: _, h => by simp [eqPairs] at h
  | _ :: _, [], h => by simp [eqPairs] at h

def sizeIs (P : Program) (t n : Nat) : Bool := match P.info? t with | some i => Nat.beq i.size n | none => false

theorem sizeIs_of {P : Program} {t n : Nat} (h : sizeIs P t n = true) : (P.info? t).map (·.size) = some n := by
  unfold sizeIs at h
  split at h
  · rename_i i hi; rw [hi]; simp [Nat.eq_of_beq_eq_true h]
  · cases h

def tyCheck (P : Program) (t : Nat) : Ty → Bool
  | .int k => (match P.underlying t with | some (.int k') => decide (k' = k) | _ => false) && sizeIs P t 1
  | .bool => (match P.underlying t with | some .bool => true | _ => false) && sizeIs P t 1
  | .str => (match P.underlying t with | some .string => true | _ => false) && sizeIs P t 1
  | .struct fs n => (match P.underlying t with | some (.struct Fs) => eqPairs (Fs.toList.map (fun f => (f.offset, f.type))) fs | _ => false) && sizeIs P t n
  | .arr n e m => (match P.underlying t with | some (.array n' e') => Nat.beq n' n && Nat.beq e' e | _ => false) && sizeIs P t m
  | .slice e => (match P.underlying t with | some (.slice e') => Nat.beq e' e | _ => false) && sizeIs P t 1
  | .ptr e => (match P.underlying t with | some (.pointer e') => Nat.beq e' e | _ => false) && sizeIs P t 1
  | .other => true

theorem tyCheck_of {P : Program} {t : Nat} {y : Ty} (h : tyCheck P t y = true) : TyOK P t y := by
  cases y <;> simp only [tyCheck, Bool.and_eq_true] at h <;> simp only [TyOK]
  all_goals
    obtain ⟨h1, h2⟩ := h
    split at h1
    all_goals first
      | (cases h1; done)
      | skip
  · rename_i hu; exact ⟨by rw [hu]; simp at h1; rw [h1], sizeIs_of h2⟩
  · rename_i hu; exact ⟨hu, sizeIs_of h2⟩
  · rename_i hu; exact ⟨hu, sizeIs_of h2⟩
  · rename_i hu; exact ⟨_, hu, eqPairs_of h1, sizeIs_of h2⟩
  · rename_i hu
    simp only [Bool.and_eq_true] at h1
    exact ⟨by rw [hu, Nat.eq_of_beq_eq_true h1.1, Nat.eq_of_beq_eq_true h1.2], sizeIs_of h2⟩
  · rename_i hu; exact ⟨by rw [hu, Nat.eq_of_beq_eq_true h1], sizeIs_of h2⟩
  · rename_i hu; exact ⟨by rw [hu, Nat.eq_of_beq_eq_true h1], sizeIs_of h2⟩

def repZ1 : SC → Value → Bool
  | .bool (.lit b), .bool b' => b == b'
  | .int k (.lit n), .int k' m => decide (k = k') && (decide (n = m) && (decide (k.min ≤ n) && decide (n ≤ k.max)))
  | .str s, .string b => s.isEmpty && b.data.toList.isEmpty
  | .exts l _, .slice _ n _ => l.isEmpty && Nat.beq n 0
  | .strs l, .slice _ n _ => l.isEmpty && Nat.beq n 0
  | .ints l, .slice _ n _ => l.isEmpty && Nat.beq n 0
  | .nils, .slice none 0 0 => true
  | _, _ => false

def repZ : List SC → List Value → Bool
  | [], [] => true
  | x :: l, v :: r => repZ1 x v && repZ l r
  | _, _ => false

theorem repZ1_of {x : SC} {v : Value} (h : repZ1 x v = true) (β : Nat → Option Nat) (own : Nat → Prop) (w : World) : RepS β own w x v ∧ x.flat = true := by
  have nil : ∀ {α : Type} {l : List α}, l.isEmpty = true → l = [] := fun h => by simpa using h
  unfold repZ1 at h
  split at h
  · simp at h; subst h; exact ⟨rfl, rfl⟩
  · simp only [Bool.and_eq_true, decide_eq_true_eq] at h
    obtain ⟨rfl, rfl, h3, h4⟩ := h
    exact ⟨⟨rfl, h3, h4⟩, rfl⟩
  · rename_i s b
    simp only [Bool.and_eq_true] at h
    obtain rfl := nil h.1
    obtain ⟨⟨b⟩⟩ := b
    obtain rfl := nil h.2
    exact ⟨⟨rfl, by simp [imax]⟩, rfl⟩
  · simp only [Bool.and_eq_true] at h
    obtain rfl := nil h.1
    obtain rfl := Nat.eq_of_beq_eq_true h.2
    exact ⟨⟨_, _, rfl, by simp [imax], .inl rfl⟩, rfl⟩
  · simp only [Bool.and_eq_true] at h
    obtain rfl := nil h.1
    obtain rfl := Nat.eq_of_beq_eq_true h.2
    exact ⟨⟨_, _, rfl, by simp [imax], .inl rfl⟩, rfl⟩
  · simp only [Bool.and_eq_true] at h
    obtain rfl := nil h.1
    obtain rfl := Nat.eq_of_beq_eq_true h.2
    exact ⟨⟨_, _, rfl, by simp [imax], .inl rfl⟩, rfl⟩
  · exact ⟨rfl, rfl⟩
  · cases h

theorem repZ_of : ∀ {l : List SC} {vs : List Value}, repZ l vs = true → (∀ β own w, RepL β own w l vs) ∧ flats l = true
  | [], [], _ => ⟨fun _ _ _ => trivial, rfl⟩
  | x :: l, v :: vs, h => by
    simp only [repZ, Bool.and_eq_true] at h
    obtain ⟨h1, h2⟩ := repZ_of h.2
    refine ⟨fun β own w => ⟨(repZ1_of h.1 β own w).1, h1 β own w⟩, ?_⟩
    simp only [flats, List.all_cons, Bool.and_eq_true] at h2 ⊢
    exact ⟨(repZ1_of h.1 (fun _ => none) (fun _ => True) default).2, h2⟩
  | [], _ :: _, h => by simp [repZ] at h
  | _ :: _, [], h => by simp [repZ] at h

/-- a table of types, laid out as a configuration without functions -/
def cfg0 (tys : List (Nat × Ty)) (eqs : List Nat) : Cfg :=
  { tys := tys, call := fun _ _ => none, n := 0, eqs := eqs, keep := fun _ => none, lent := fun _ => none, callm := fun _ _ _ => none, die := fun _ _ _ => none, hold := fun _ => true, pin := fun _ => false }

def zeroCheck (P : Program) (c : Cfg) (z : Zs) (t : Nat) : Bool :=
  match zeroCells c z.ext z.strs z.ints z.nilv 20 t with
  | none => true
  | some l => match P.info? t with
    | none => false
    | some i => match i.zero with
      | none => false
      | some v => repZ l v.cells.toList

def eqCheck (P : Program) (c : Cfg) (z : Zs) (t : Nat) : Bool :=
  match zeroCells c z.ext z.strs z.ints z.nilv 20 t with
  | none => true
  | some l => match eqK c t with
    | none => false
    | some ks => (ks.length.beq l.length && (ks.zip l).all (fun p => Nat.beq p.1 p.2.kind)) && (!P.stoodInHeld t && (!P.eqGuardType P.depth t && (P.fieldsOf t).toList.all fun f => !(f.name == "_")))

theorem tyAt_mem {tys : List (Nat × Ty)} {t : Nat} : tyAt tys t = .other ∨ (t, tyAt tys t) ∈ tys := by
  induction tys with
  | nil => exact .inl rfl
  | cons p r ih =>
    obtain ⟨a, y⟩ := p
    unfold tyAt
    split
    · rename_i h; rw [Nat.eq_of_beq_eq_true h]; exact .inr (.head _)
    · exact ih.imp id (.tail _)

def btsCheck (P : Program) (t : Nat) (y : Ty) : Bool :=
  match P.info? t with
  | none => true
  | some i => Nat.ble i.bytes 4096 && match y with
    | .int .u8 => Nat.beq i.bytes 1 && match i.zero with
      | some (.int .u8 0) => true
      | _ => false
    | _ => true

theorem btsCheck_of {P : Program} {t : Nat} {y : Ty} (h : btsCheck P t y = true) : ∀ i, P.info? t = some i → i.bytes ≤ 4096 ∧ (y = .int .u8 → i.bytes = 1 ∧ i.zero = some (.int .u8 0)) := by
  intro i hi
  unfold btsCheck at h
  rw [hi] at h
  simp only [Bool.and_eq_true] at h
  refine ⟨Nat.le_of_ble_eq_true h.1, fun hy => ?_⟩
  subst hy
  simp only [Bool.and_eq_true] at h
  refine ⟨Nat.eq_of_beq_eq_true h.2.1, ?_⟩
  have h2 := h.2.2
  split at h2
  · assumption
  · cases h2

/-- all that an environment says but of calls -/
structure BaseOK (P : Program) (tys : List (Nat × Ty)) (eqs : List Nat) (z : Zs) : Prop where
  mixed : P.follows .mixedOrders = true
  ty : (tys.all fun p => tyCheck P p.1 p.2) = true
  zero : (tys.all fun p => zeroCheck P (cfg0 tys eqs) z p.1) = true
  eq : (eqs.all fun t => eqCheck P (cfg0 tys eqs) z t) = true
  bts : (tys.all fun p => btsCheck P p.1 p.2) = true

theorem kind_rep {β : Nat → Option Nat} {own : Nat → Prop} {w : World} {x : SC} {v : Value} (h : RepS β own w x v) (hk : x.kind ≠ 0) : kOf v = x.kind := by
  cases x <;> simp only [SC.kind] at hk ⊢ <;> simp only [RepS] at h <;> try (exact absurd rfl hk)
  case bool => subst h; rfl
  case int => obtain ⟨rfl, _⟩ := h; rfl
  case byte => subst h; rfl
  case str => obtain ⟨rfl, _⟩ := h; rfl

theorem alike_kinds : ∀ {l a : List SC}, alike l a = true → a.map SC.kind = l.map SC.kind ∧ ∀ x ∈ a, x.kind ≠ 0
  | [], [], _ => ⟨rfl, fun _ h => nomatch h⟩
  | x :: l, y :: r, h => by
    unfold alike at h
    split at h
    · cases h
    · rename_i n hn
      split at h
      · rename_i hb
        obtain ⟨h1, h2⟩ := alike_kinds h
        have hy := Nat.eq_of_beq_eq_true hb
        refine ⟨by simp [h1, hn, ← hy], fun u hu => ?_⟩
        rcases List.mem_cons.1 hu with rfl | hu
        · omega
        · exact h2 u hu
      · cases h
  | [], _ :: _, h => by simp [alike] at h
  | _ :: _, [], h => by simp [alike] at h

theorem rep_kinds {β : Nat → Option Nat} {own : Nat → Prop} {w : World} : ∀ {a : List SC} {cs : List Value}, RepL β own w a cs → (∀ x ∈ a, x.kind ≠ 0) → cs.map kOf = a.map SC.kind
  | [], [], _, _ => rfl
  | x :: a, v :: cs, h, hk => by simp [kind_rep h.1 (hk x (.head _)), rep_kinds h.2 fun y hy => hk y (.tail _ hy)]
  | [], _ :: _, h, _ => h.elim
  | _ :: _, [], h, _ => h.elim

theorem cmp_eql (m n : IV) : (cmpI .eql m n).lb = (m.li == n.li) := by
  cases m <;> cases n <;> simp [cmpI, cmpLit, cmpSym, BV.lb, IV.li, lbLit, liLit, lbEqI]

theorem eqS_veq {β : Nat → Option Nat} {own : Nat → Prop} {w : World} {x y : SC} {u v : Value} {r : BV} (h : eqS x y = some r) (hx : RepS β own w x u) (hy : RepS β own w y v) : veq u v = r.lb := by
  unfold eqS at h
  split at h
  · simp only [Option.some.injEq] at h; subst h
    rw [show u = _ from hx, show v = _ from hy, bvEq_lb]; rfl
  · simp only [Option.some.injEq] at h; subst h
    rw [hx.1, hy.1]
    simp only [veq, BV.lb, lbEqS, ByteArray.toList_eq]
  · split at h
    · rename_i k a k' b ha hb
      simp only [Option.some.injEq] at h; subst h
      rw [(asI_rep hx ha).1, (asI_rep hy hb).1, cmp_eql]; rfl
    · cases h

theorem eqCells_veqs {β : Nat → Option Nat} {own : Nat → Prop} {w : World} : ∀ {a b : List SC} {cs ds : List Value} {r : BV}, eqCells a b = some r → RepL β own w a cs → RepL β own w b ds → veqs cs ds = r.lb
  | [], [], [], [], r, h, _, _ => by simp only [eqCells, Option.some.injEq] at h; subst h; rfl
  | [x], [y], [u], [v], r, h, hx, hy => by simp only [eqCells] at h; simp [veqs, eqS_veq h hx.1 hy.1]
  | x :: x2 :: l, y :: l', u :: cs, v :: ds, r, h, hx, hy => by
    simp only [eqCells] at h
    split at h
    · rename_i p q h1 h2
      simp only [Option.some.injEq] at h; subst h
      rw [bvAnd_lb, veqs, eqS_veq h1 hx.1 hy.1, eqCells_veqs h2 hx.2 hy.2]
    · cases h
  | [x], y :: y2 :: l', u :: cs, v :: ds, r, h, hx, hy => by
    simp only [eqCells] at h
    split at h
    · rename_i p q h1 h2
      cases h2
    · cases h
  | [], [], _ :: _, _, _, _, hx, _ => hx.elim
  | [], [], [], _ :: _, _, _, _, hy => hy.elim
  | _ :: _, _, [], _, _, _, hx, _ => hx.elim
  | _, _ :: _, _, [], _, _, _, hy => hy.elim
  | [], _ :: _, _, _, _, h, _, _ => by simp [eqCells] at h
  | [_], [], _, _, _, h, _, _ => by simp [eqCells] at h
  | _ :: _ :: _, [], _, _, _, h, _, _ => by simp [eqCells] at h
  | [_], [_], _ :: _ :: _, _, _, _, hx, _ => hx.2.elim
  | [_], [_], [_], _ :: _ :: _, _, _, _, hy => hy.2.elim

/-- the environment of a configuration whose calls are told -/
theorem mkEnv {P : Program} {c : Cfg} {z : Zs} (B : BaseOK P c.tys c.eqs z)
    (call : ∀ f args r req, c.lent f = none → (∀ b n, c.die f [] args = some (b, n) → b.lb = false) → c.call f args = some (r, req) → (∀ b ∈ req, b = true) → Con P f args r)
    (callm : ∀ f cells args r cells' req, c.lent f = some cells.length → (∀ b n, c.die f cells args = some (b, n) → b.lb = false) → c.callm f cells args = some (r, cells', req) → (∀ b ∈ req, b = true) → ConM P f cells args r cells')
    (die : ∀ f args b n, c.lent f = none → c.die f [] args = some (b, n) → b.lb = true → ConDie P f args n)
    (diem : ∀ f cells args b n, c.lent f = some cells.length → c.die f cells args = some (b, n) → b.lb = true → ConMDie P f cells args n)
    (same : ∀ f, c.same f = true → ConSame P f) : Env P c z := by
  have hz : ∀ t, zeroCells c z.ext z.strs z.ints z.nilv 20 t = zeroCells (cfg0 c.tys c.eqs) z.ext z.strs z.ints z.nilv 20 t := by
    have : ∀ n t, zeroCells c z.ext z.strs z.ints z.nilv n t = zeroCells (cfg0 c.tys c.eqs) z.ext z.strs z.ints z.nilv n t := by
      intro n
      induction n with
      | zero => intro t; rfl
      | succ n ih =>
        intro t
        unfold zeroCells
        rw [show (cfg0 c.tys c.eqs).ty t = c.ty t from rfl]
        split <;> simp [ih]
    exact this 20
  have hty : ∀ t, TyOK P t (c.ty t) := by
    intro t
    rcases tyAt_mem (tys := c.tys) (t := t) with h | h
    · rw [show c.ty t = tyAt c.tys t from rfl, h]; trivial
    · exact tyCheck_of (List.all_eq_true.1 B.ty _ h)
  refine ⟨B.mixed, hty, fun t l h => ?_, fun t l hm h a b v ha hb hv β own w cs ds h1 h2 => ?_, call, callm, die, diem, fun t i hk hi => ?_, same⟩
  · rcases tyAt_mem (tys := c.tys) (t := t) with h' | h'
    · unfold zeroCells at h
      rw [show c.ty t = tyAt c.tys t from rfl, h'] at h
      simp [zeroS] at h
    · have := List.all_eq_true.1 B.zero _ h'
      rw [hz] at h
      simp only [zeroCheck, h] at this
      split at this
      · cases this
      · rename_i i hi
        split at this
        · cases this
        · rename_i vv hvv
          exact ⟨i, vv, hi, hvv, (repZ_of this).1, (repZ_of this).2⟩
  · have hmem : t ∈ c.eqs := by
      have : ∀ l : List Nat, memN l t = true → t ∈ l := by
        intro l
        induction l with
        | nil => intro h; simp [memN] at h
        | cons x l ih =>
          intro h
          unfold memN at h
          split at h
          · rename_i e; rw [Nat.eq_of_beq_eq_true e]; exact .head _
          · exact .tail _ (ih h)
      exact this _ hm
    have hc := List.all_eq_true.1 B.eq _ hmem
    rw [hz] at h
    simp only [eqCheck, h] at hc
    split at hc
    · cases hc
    · rename_i ks hk
      simp only [Bool.and_eq_true, Bool.not_eq_true'] at hc
      obtain ⟨⟨c1, c2⟩, c3, c4, c5⟩ := hc
      have hks : l.map SC.kind = ks := by
        have e1 := Nat.eq_of_beq_eq_true c1
        have : ∀ (ks : List Nat) (l : List SC), ks.length = l.length → (ks.zip l).all (fun p => Nat.beq p.1 p.2.kind) = true → l.map SC.kind = ks := by
          intro ks
          induction ks with
          | nil => intro l h _; cases l with | nil => rfl | cons => simp at h
          | cons k ks ih =>
            intro l h h'
            cases l with
            | nil => simp at h
            | cons x l =>
              simp only [List.zip_cons_cons, List.all_cons, Bool.and_eq_true] at h'
              simp only [List.map_cons]
              rw [ih l (by simpa using h) h'.2, Nat.eq_of_beq_eq_true h'.1]
        exact this ks l e1 c2
      obtain ⟨a1, a2⟩ := alike_kinds ha
      obtain ⟨b1, b2⟩ := alike_kinds hb
      have k1 : cs.map kOf = ks := by rw [rep_kinds h1 a2, a1, hks]
      have k2 : ds.map kOf = ks := by rw [rep_kinds h2 b2, b1, hks]
      refine ⟨fun op x y => run_eqGuard_agg w op t x y _ _ c4, ?_⟩
      have hf : ∀ fs off, fieldsK (cfg0 c.tys c.eqs) off fs = fieldsK c off fs := by
        intro fs
        induction fs with
        | nil => intro off; rfl
        | cons p fs ih =>
          intro off
          obtain ⟨o, t⟩ := p
          simp only [fieldsK, ih]
          rfl
      have hk' : eqK c t = some ks := by
        rw [← hk]
        unfold eqK
        rw [show (cfg0 c.tys c.eqs).ty t = c.ty t from rfl]
        split
        · rw [hf]
        · rfl
        · rfl
      have := eq_type (P := P) (c := c) (w := w) (d := 9997) hty hk' c3 c5 k1 k2
      rw [← eqCells_veqs hv h1 h2]
      exact this
  · rcases tyAt_mem (tys := c.tys) (t := t) with h | h
    · rw [show c.ty t = tyAt c.tys t from rfl, h] at hk
      cases hk
    · exact btsCheck_of (List.all_eq_true.1 B.bts _ h) i hi

theorem zeroFlat {P : Program} {c : Cfg} {z : Zs} (E : Env P c z) : ZeroFlat c z := fun t l h => by
  obtain ⟨i, v, _, _, _, h4⟩ := E.zero t l h
  exact h4
end Go.Adit
