/- Part of the proofs of the laws: lemmas and contracts, no statement of its own. -/
import Derived.Laws.StructEq
import Derived.Test.YtledohjnchnmhaaFwC
set_option linter.unusedVariables false
set_option linter.unusedSimpArgs false
namespace Go.Adit
open Go.RowKit

/-- the kind of a cell -/
def kOf : Value → Nat
  | .bool _ => 1
  | .string _ => 2
  | .int k _ => kindNo k
  | _ => 0

/-- '==' of two cells of one kind -/
def veq : Value → Value → Bool
  | .bool a, .bool b => a == b
  | .string a, .string b => a.toList == b.toList
  | .int _ a, .int _ b => a == b
  | _, _ => false

def veqs : List Value → List Value → Bool
  | [], [] => true
  | u :: l, v :: r => veq u v && veqs l r
  | _, _ => false

theorem veqs_append : ∀ {a b c d : List Value}, a.length = b.length → veqs (a ++ c) (b ++ d) = (veqs a b && veqs c d)
  | [], [], c, d, _ => by simp [veqs]
  | u :: a, v :: b, c, d, h => by simp at h; simp [veqs, veqs_append (a := a) (b := b) (c := c) (d := d) h, Bool.and_assoc]
  | [], _ :: _, _, _, h => by simp at h
  | _ :: _, [], _, _, h => by simp at h

def primK : Ty → Option Nat
  | .int k => some (kindNo k)
  | .bool => some 1
  | .str => some 2
  | _ => none

/-- the kinds of a type's cells -/
def kindsTy (c : Cfg) (t : Nat) : Option (List Nat) :=
  match primK (c.ty t) with
  | some k => some [k]
  | none => match c.ty t with
    | .arr n e m => match primK (c.ty e) with
      | some k => if Nat.beq n m then some (List.replicate n k) else none
      | none => none
    | _ => none

theorem kindNo_inj {a b : IntKind} (h : kindNo a = kindNo b) : a = b := by cases a <;> cases b <;> simp [kindNo] at h <;> rfl
theorem kindNo_gt (a : IntKind) : 9 < kindNo a := by cases a <;> simp [kindNo]

section
variable {P : Program} {c : Cfg} {w : World} {d : Nat}

theorem prim_known {t k : Nat} (h : primK (c.ty t) = some k) : (c.ty t).known = true ∧ (c.ty t).isAgg = false ∧ (c.ty t).size = 1 := by
  cases e : c.ty t <;> rw [e] at h <;> simp [primK] at h <;> exact ⟨rfl, rfl, rfl⟩

theorem eq_prim (hty : ∀ t, TyOK P t (c.ty t)) {t k : Nat} (h : primK (c.ty t) = some k) {u v : Value} (hu : kOf u = k) (hv : kOf v = k) : (Op.equalIn (d + 1) t u v).run P w = .ok (veq u v) w := by
  have e := hty t
  cases et : c.ty t <;> rw [et] at h e <;> simp [primK] at h
  case int kk =>
    have := kindNo_gt kk
    cases u <;> simp [kOf] at hu <;> cases v <;> simp [kOf] at hv <;> try omega
    rename_i k1 a k2 b
    have h1 := kindNo_inj (hu.trans h.symm)
    have h2 := kindNo_inj (hv.trans h.symm)
    subst h1; subst h2
    exact run_equalIn_int w d t _ _ a b e.1
  case bool =>
    subst h
    cases u <;> simp [kOf] at hu <;> first
      | (have := kindNo_gt ‹IntKind›; omega)
      | (cases v <;> simp [kOf] at hv <;> first
          | (have := kindNo_gt ‹IntKind›; omega)
          | exact run_equalIn_bool' w d t _ _ e.1)
  case str =>
    subst h
    cases u <;> simp [kOf] at hu <;> first
      | (have := kindNo_gt ‹IntKind›; omega)
      | (cases v <;> simp [kOf] at hv <;> first
          | (have := kindNo_gt ‹IntKind›; omega)
          | exact run_equalIn_string w d t _ _ e.1)

theorem run_isAgg' (hty : ∀ t, TyOK P t (c.ty t)) {t : Nat} (h : (c.ty t).known = true) : (isAgg t).run P w = .ok (c.ty t).isAgg w := by
  have e1 := hty t
  unfold isAgg
  cases h2 : c.ty t <;> rw [h2] at e1 h <;> simp only [TyOK] at e1 <;> try (simp [Ty.known] at h; done)
  case struct => obtain ⟨_, e1, _⟩ := e1; simp [run_underlying e1, Ty.isAgg]
  all_goals simp [run_underlying e1.1, Ty.isAgg]

theorem run_sizeOf' (hty : ∀ t, TyOK P t (c.ty t)) {t : Nat} (h : (c.ty t).known = true) : (sizeOf t).run P w = .ok (c.ty t).size w := by
  have e1 := hty t
  have : ∃ i, P.info? t = some i ∧ i.size = (c.ty t).size := by
    cases h2 : c.ty t <;> rw [h2] at e1 h <;> simp only [TyOK] at e1 <;> try (simp [Ty.known] at h; done)
    case struct =>
      obtain ⟨_, _, _, e1⟩ := e1
      obtain ⟨i, h3, h4⟩ := Option.map_eq_some_iff.1 e1
      exact ⟨i, h3, h4⟩
    all_goals
      obtain ⟨i, h3, h4⟩ := Option.map_eq_some_iff.1 e1.2
      exact ⟨i, h3, h4⟩
  obtain ⟨i, h1, h2⟩ := this
  simp [sizeOf, typeInfo, h1, h2]

theorem part_prim (hty : ∀ t, TyOK P t (c.ty t)) {t k : Nat} (h : primK (c.ty t) = some k) {cs : List Value} {off : Nat} {v : Value} (hv : cs[off]? = some v) : (part t ⟨cs⟩ off).run P w = .ok v w := by
  obtain ⟨h1, h2, _⟩ := prim_known h
  unfold part
  simp [run_isAgg' hty h1, h2, hv]

theorem part_agg (hty : ∀ t, TyOK P t (c.ty t)) {t : Nat} (h1 : (c.ty t).known = true) (h2 : (c.ty t).isAgg = true) {cs : List Value} {off : Nat} :
    (part t ⟨cs⟩ off).run P w = .ok (.agg ⟨(cs.drop off).take (c.ty t).size⟩) w := by
  unfold part
  simp [run_isAgg' hty h1, h2, run_sizeOf' hty h1, List.extract_eq_take_drop]

theorem eq_arr (hty : ∀ t, TyOK P t (c.ty t)) {t n e k : Nat} (ht : c.ty t = .arr n e n) (hk : primK (c.ty e) = some k) {cs ds : List Value} (hc : cs.map kOf = List.replicate n k) (hd : ds.map kOf = List.replicate n k) :
    (Op.equalIn (d + 2) t (.agg ⟨cs⟩) (.agg ⟨ds⟩)).run P w = .ok (veqs cs ds) w := by
  have e1 := hty t
  rw [ht] at e1
  obtain ⟨h1, h2, h3⟩ := prim_known hk
  have hl1 : cs.length = n := by have := congrArg List.length hc; simpa using this
  have hl2 : ds.length = n := by have := congrArg List.length hd; simpa using this
  have at1 : ∀ (l : List Value), List.map kOf l = List.replicate n k → ∀ (i : Nat) (v : Value), l[i]? = some v → kOf v = k := by
    intro l hl i v hv
    have h5 : (List.map kOf l)[i]? = some (kOf v) := by simp [hv]
    rw [hl, List.getElem?_replicate] at h5
    split at h5
    · simp only [Option.some.injEq] at h5; exact h5.symm
    · cases h5
  rw [Op.equalIn]
  simp only [Sem.run_bind, run_underlying e1.1, Result.andThen_ok, run_sizeOf' hty h1, h3, Nat.mul_one]
  rw [Std.Legacy.Range.forIn_eq_forIn_range']
  have key : ∀ (m i : Nat), i + m = n → (forIn (List.range' i m 1) ((none : Option Bool), ()) fun i __s => do
            let __do_lift ← part e { toList := cs } i
            let __do_lift_1 ← part e { toList := ds } i
            let __do_lift ← Op.equalIn (d + 1) e __do_lift __do_lift_1
            if (!__do_lift) = true then pure (ForInStep.done (some false, ())) else pure (ForInStep.yield (none, ()))).run P w =
      .ok ((if veqs (cs.drop i) (ds.drop i) then none else some false), ()) w := by
    intro m
    induction m with
    | zero =>
      intro i hi
      rw [List.drop_eq_nil_of_le (by omega), List.drop_eq_nil_of_le (by omega)]
      simp [veqs]
    | succ m ih =>
      intro i hi
      have hc' : i < cs.length := by omega
      have hd' : i < ds.length := by omega
      have g1 := part_prim (P := P) (w := w) hty hk (cs := cs) (off := i) (List.getElem?_eq_getElem hc')
      have g2 := part_prim (P := P) (w := w) hty hk (cs := ds) (off := i) (List.getElem?_eq_getElem hd')
      have g3 := eq_prim (P := P) (w := w) (d := d) hty hk (at1 cs hc i _ (List.getElem?_eq_getElem hc')) (at1 ds hd i _ (List.getElem?_eq_getElem hd'))
      rw [List.drop_eq_getElem_cons hc', List.drop_eq_getElem_cons hd']
      simp only [List.range'_succ, List.forIn_cons, Sem.run_bind, g1, g2, g3, Result.andThen_ok, veqs]
      rcases Bool.eq_false_or_eq_true (veq cs[i] ds[i]) with hv | hv
      · simp only [hv, Bool.not_true, Bool.false_eq_true, if_false, Sem.run_pure, Result.andThen_ok, Bool.true_and]
        exact ih (i + 1) (by omega)
      · simp [hv]
  have h9 := key n 0 (by omega)
  simp only [List.drop_zero] at h9
  simp only [Std.Legacy.Range.size]
  have : (n - 0 + 1 - 1) / 1 = n := by simp
  rw [this, h9]
  cases veqs cs ds <;> simp

/-- a field's run -/
theorem eq_field (hty : ∀ t, TyOK P t (c.ty t)) {t : Nat} {ks : List Nat} (hk : kindsTy c t = some ks) {cs ds : List Value} {off : Nat} (hc : ((cs.drop off).take ks.length).map kOf = ks) (hd : ((ds.drop off).take ks.length).map kOf = ks) :
    ∃ a b, (part t ⟨cs⟩ off).run P w = .ok a w ∧ (part t ⟨ds⟩ off).run P w = .ok b w ∧
      (Op.equalIn (d + 2) t a b).run P w = .ok (veqs ((cs.drop off).take ks.length) ((ds.drop off).take ks.length)) w := by
  unfold kindsTy at hk
  split at hk
  · rename_i k hp
    simp only [Option.some.injEq] at hk
    subst hk
    have one : ∀ l : List Value, ((l.drop off).take 1).map kOf = [k] → ∃ v, l[off]? = some v ∧ (l.drop off).take 1 = [v] ∧ kOf v = k := by
      intro l hl
      cases e : l.drop off with
      | nil => rw [e] at hl; simp at hl
      | cons v r =>
        rw [e] at hl
        refine ⟨v, ?_, by simp, by simpa using hl⟩
        have := congrArg (fun q : List Value => q[0]?) e
        simpa using this
    obtain ⟨u, u1, u2, u3⟩ := one cs hc
    obtain ⟨v, v1, v2, v3⟩ := one ds hd
    refine ⟨u, v, part_prim hty hp u1, part_prim hty hp v1, ?_⟩
    rw [show [k].length = 1 from rfl, u2, v2]
    simp only [veqs, Bool.and_true]
    exact eq_prim hty hp u3 v3
  · split at hk
    · rename_i n e m ht
      split at hk
      · rename_i k hp
        split at hk
        · rename_i hnm
          simp only [Option.some.injEq] at hk
          subst hk
          obtain rfl := Nat.eq_of_beq_eq_true hnm
          have hs : (c.ty t).size = n := by rw [ht]; rfl
          refine ⟨_, _, part_agg hty (by rw [ht]; rfl) (by rw [ht]; rfl), part_agg hty (by rw [ht]; rfl) (by rw [ht]; rfl), ?_⟩
          rw [hs]
          simp only [List.length_replicate] at hc hd ⊢
          exact eq_arr hty ht hp hc hd
        · cases hk
      · cases hk
    · cases hk

def fieldsK (c : Cfg) : Nat → List (Nat × Nat) → Option (List Nat)
  | _, [] => some []
  | off, (o, t) :: r => match kindsTy c t with
    | some k => match Nat.beq o off, fieldsK c (off + k.length) r with
      | true, some l => some (k ++ l)
      | _, _ => none
    | none => none

theorem eq_fields (hty : ∀ t, TyOK P t (c.ty t)) : ∀ (Fs : List Field) (off : Nat) (ks : List Nat) (cs ds : List Value), (∀ f ∈ Fs, (f.name == "_") = false) → fieldsK c off (Fs.map fun f => (f.offset, f.type)) = some ks →
    (cs.drop off).map kOf = ks → (ds.drop off).map kOf = ks → (Op.eqFields (d + 2) ⟨cs⟩ ⟨ds⟩ Fs).run P w = .ok (veqs (cs.drop off) (ds.drop off)) w
  | [], off, ks, cs, ds, _, hk, hc, hd => by
    simp only [List.map_nil, fieldsK, Option.some.injEq] at hk
    subst hk
    simp only [List.map_eq_nil_iff] at hc hd
    rw [hc, hd]
    simp [Op.eqFields, veqs]
  | f :: Fs, off, ks, cs, ds, hn, hk, hc, hd => by
    simp only [List.map_cons, fieldsK] at hk
    split at hk
    · rename_i k hkf
      split at hk
      · rename_i l ho hr
        simp only [Option.some.injEq] at hk
        subst hk
        have ho' := Nat.eq_of_beq_eq_true ho
        have sp : ∀ q : List Value, (q.drop off).map kOf = k ++ l → ((q.drop off).take k.length).map kOf = k ∧ (q.drop (off + k.length)).map kOf = l := by
          intro q hq
          refine ⟨by rw [List.map_take, hq]; simp, ?_⟩
          rw [← List.drop_drop, List.map_drop, hq]
          simp
        obtain ⟨c1, c2⟩ := sp cs hc
        obtain ⟨d1, d2⟩ := sp ds hd
        obtain ⟨a, b, p1, p2, p3⟩ := eq_field (P := P) (w := w) (d := d) hty hkf c1 d1
        rw [← ho'] at p1 p2
        have hnf : f.name ≠ "_" := by simpa using hn f (.head _)
        have ih := eq_fields hty Fs (off + k.length) l cs ds (fun g hg => hn g (.tail _ hg)) hr c2 d2
        have len : ((cs.drop off).take k.length).length = ((ds.drop off).take k.length).length := by
          have h1 := congrArg List.length c1
          have h2 := congrArg List.length d1
          rw [List.length_map] at h1 h2
          rw [h1, h2]
        have sv : veqs (cs.drop off) (ds.drop off) = (veqs ((cs.drop off).take k.length) ((ds.drop off).take k.length) && veqs (cs.drop (off + k.length)) (ds.drop (off + k.length))) := by
          rw [← veqs_append len, ← List.drop_drop, ← List.drop_drop, List.take_append_drop, List.take_append_drop]
        rw [sv, Op.eqFields]
        simp only [if_pos hnf, Sem.run_bind, p1, p2, p3, Result.andThen_ok]
        cases veqs ((cs.drop off).take k.length) ((ds.drop off).take k.length) with
        | false => simp
        | true => simpa using ih
      · cases hk
    · cases hk

/-- the kinds of the cells of a type that may be compared -/
def eqK (c : Cfg) (t : Nat) : Option (List Nat) :=
  match c.ty t with
  | .struct fs _ => fieldsK c 0 fs
  | .arr .. => kindsTy c t
  | _ => none

theorem eq_type (hty : ∀ t, TyOK P t (c.ty t)) {t : Nat} {ks : List Nat} (hk : eqK c t = some ks) (hp : P.stoodInHeld t = false) (hn : ((P.fieldsOf t).toList.all fun f => !(f.name == "_")) = true) {cs ds : List Value}
    (hc : cs.map kOf = ks) (hd : ds.map kOf = ks) : (Op.equalIn (d + 3) t (.agg ⟨cs⟩) (.agg ⟨ds⟩)).run P w = .ok (veqs cs ds) w := by
  unfold eqK at hk
  split at hk
  · rename_i fs m ht
    have e1 := hty t
    rw [ht] at e1
    obtain ⟨Fs, u1, u2, _⟩ := e1
    have hf : P.fieldsOf t = Fs := by simp [Program.fieldsOf, u1]
    rw [run_equalIn_struct (P := P) w (d + 2) t _ _ (by rw [hf]; exact u1) hp, hf]
    rw [hf] at hn
    have := eq_fields (P := P) (w := w) (d := d) hty Fs.toList 0 ks cs ds (fun f h => by simpa using List.all_eq_true.1 hn f h) (by rw [← u2] at hk; exact hk) (by simpa using hc) (by simpa using hd)
    simpa using this
  · rename_i n e m ht
    unfold kindsTy at hk
    rw [ht] at hk
    simp only [primK] at hk
    split at hk
    · rename_i k hp'
      split at hk
      · rename_i hnm
        simp only [Option.some.injEq] at hk
        subst hk
        obtain rfl := Nat.eq_of_beq_eq_true hnm
        exact eq_arr (d := d + 1) hty ht hp' hc hd
      · cases hk
    · cases hk
  · cases hk
end
end Go.Adit
