/- Part of the proofs of the laws: lemmas and contracts, no statement of its own. -/
import Derived.Test.YtledohjnchnmhaaTryB
set_option linter.unusedVariables false
set_option linter.unusedSimpArgs false
namespace Go.Adit
/-- what a run is told besides -/
structure Xt where
  dyn : Nat → Bool := fun _ => false
  gk : Nat → Nat → Option Nat := fun _ _ => none
  same : Nat → Bool := fun _ => false
def mkCfgX (x : Xt) (tys : List (Nat × Ty)) (eqs : List Nat) (es : List Entry) (n : Nat) (keep : Nat → Option (List Nat × List Nat)) : Cfg :=
  { mkCfg tys eqs es n keep with dyn := x.dyn, gk := x.gk, same := x.same }
def symFX (x : Xt) (tys : List (Nat × Ty)) (eqs : List Nat) (z : Zs) (es : List Entry) (f : Go.Func) (keep : Nat → Option (List Nat × List Nat)) (args : List D) : Tr :=
  sym (mkCfgX x tys eqs es f.ntmps keep) z f.results.toList 5000 [.code 0 (bodyOf f)] (st0 args)
def symMX (x : Xt) (tys : List (Nat × Ty)) (eqs : List Nat) (z : Zs) (es : List Entry) (f : Go.Func) (keep : Nat → Option (List Nat × List Nat)) (cells : List SC) (args : List D) : Tr :=
  sym (mkCfgX x tys eqs es f.ntmps keep) z f.results.toList 5000 [.code 0 (bodyOf f)] (stM cells args)
def symRX (x : Xt) (tys : List (Nat × Ty)) (eqs : List Nat) (z : Zs) (es : List Entry) (f : Go.Func) (keep : Nat → Option (List Nat × List Nat)) (i : Nat) (v : List (Nat × D)) (m : List (Nat × Blk)) : Tr :=
  sym (mkCfgX x tys eqs es f.ntmps keep) z f.results.toList 5000 (roundOf (bodyOf f) i) (St.of v m)
end Go.Adit

namespace Go.Adit
open Go.RowKit
section
variable {P : Program} {tys : List (Nat × Ty)} {eqs : List Nat} {z : Zs} {es : List Entry} {x : Xt}

theorem envOfX (B : BaseOK P tys eqs z) (h : ∀ e ∈ es, EntryOK P e) (hs : ∀ f, x.same f = true → ConSame P f) (n : Nat) (keep : Nat → Option (List Nat × List Nat)) : Env P (mkCfgX x tys eqs es n keep) z := by
  have E := envOf B h n keep
  exact mkEnv (c := mkCfgX x tys eqs es n keep) B (fun f args r req => E.call f args r req) (fun f cells args r cells' req => E.callm f cells args r cells' req) (fun f args b n => E.die f args b n) (fun f cells args b n => E.diem f cells args b n) hs

theorem con_loopX (B : BaseOK P tys eqs z) (h : ∀ e ∈ es, EntryOK P e) (hs : ∀ f, x.same f = true → ConSame P f) {f : FuncId} {fn : Func} (keep : Nat → Option (List Nat × List Nat)) (hf : P.funcs[f]? = some fn) (hb : fn.body = some (bodyOf fn)) (hok : regsOk (mkCfgX x tys eqs es fn.ntmps keep) (bodyOf fn) = true)
    (hn : (fn.name == "runtime.NumGoroutine") = false) {args : List D} (ha : Nat.ble args.length fn.ntmps = true) (hbare : args.all D.bare = true) {r : D}
    {γ : Nat → Type} (T : (i : Nat) → γ i → List (Nat × D) × List (Nat × Blk)) (M : (i : Nat) → γ i → Nat)
    (hmain : (symFX x tys eqs z es fn keep args).holds (fun d _ => d.norm = r.norm) (fun _ => False) (Arr T fun _ _ => True))
    (hround : ∀ i g, i < nloops (bodyOf fn) → (symRX x tys eqs z es fn keep i (T i g).1 (T i g).2).holds (fun d _ => d.norm = r.norm) (fun _ => False) (Arr T fun j g' => M j g' < M i g)) : Con P f args r := by
  have E := envOfX B h hs fn.ntmps keep
  exact con_tree E (zeroFlat E) (body := bodyOf fn) ⟨hf, .inl hb, hok, hn, rfl⟩ (Nat.le_of_ble_eq_true ha) hbare T M 5000 hmain hround

theorem con_flatX (B : BaseOK P tys eqs z) (h : ∀ e ∈ es, EntryOK P e) (hs : ∀ f, x.same f = true → ConSame P f) {f : FuncId} {fn : Func} (hf : P.funcs[f]? = some fn) (hb : fn.body = some (bodyOf fn)) (hok : regsOk (mkCfgX x tys eqs es fn.ntmps noKeep) (bodyOf fn) = true)
    (hn : (fn.name == "runtime.NumGoroutine") = false) {args : List D} (ha : Nat.ble args.length fn.ntmps = true) (hbare : args.all D.bare = true) {r : D} {t : Tr} (ht : symFX x tys eqs z es fn noKeep args = t)
    (hh : t.holds (fun d _ => d.norm = r.norm) (fun _ => False) (fun _ _ _ => False)) : Con P f args r := by
  have E := envOfX B h hs fn.ntmps noKeep
  have hh' : (symFX x tys eqs z es fn noKeep args).holds (fun d _ => d.norm = r.norm) (fun _ => False) (Arr (γ := fun _ => Empty) (fun _ g => g.elim) fun _ _ => True) := by
    rw [ht]; exact holds_flat hh
  exact con_tree E (zeroFlat E) (body := bodyOf fn) ⟨hf, .inl hb, hok, hn, rfl⟩ (Nat.le_of_ble_eq_true ha) hbare (γ := fun _ => Empty) (fun _ g => g.elim) (fun _ g => g.elim) 5000 hh' (fun i g => g.elim)

theorem conM_loopX (B : BaseOK P tys eqs z) (h : ∀ e ∈ es, EntryOK P e) (hs : ∀ f, x.same f = true → ConSame P f) {f : FuncId} {fn : Func} (keep : Nat → Option (List Nat × List Nat)) (hf : P.funcs[f]? = some fn) (hb : fn.body = some (bodyOf fn)) (hok : regsOk (mkCfgX x tys eqs es fn.ntmps keep) (bodyOf fn) = true)
    (hn : (fn.name == "runtime.NumGoroutine") = false) {cells cells' : List SC} {args : List D} (ha : Nat.ble (args.length + 1) fn.ntmps = true) (hbare : args.all D.bare = true) (hfl : flats cells = true) (hcb : cells.all SC.bare = true) {r : D}
    {γ : Nat → Type} (T : (i : Nat) → γ i → List (Nat × D) × List (Nat × Blk)) (M : (i : Nat) → γ i → Nat)
    (hmain : (symMX x tys eqs z es fn keep cells args).holds (fun d l => d.norm = r.norm ∧ l.map SC.norm = cells'.map SC.norm ∧ l ≠ []) (fun _ => False) (Arr T fun _ _ => True))
    (hround : ∀ i g, i < nloops (bodyOf fn) → (symRX x tys eqs z es fn keep i (T i g).1 (T i g).2).holds (fun d l => d.norm = r.norm ∧ l.map SC.norm = cells'.map SC.norm ∧ l ≠ []) (fun _ => False) (Arr T fun j g' => M j g' < M i g)) : ConM P f cells args r cells' := by
  have E := envOfX B h hs fn.ntmps keep
  exact conM_tree E (zeroFlat E) (body := bodyOf fn) ⟨hf, .inl hb, hok, hn, rfl⟩ (Nat.le_of_ble_eq_true ha) hbare hfl hcb T M 5000 hmain hround

theorem conMDie_loopX (B : BaseOK P tys eqs z) (h : ∀ e ∈ es, EntryOK P e) (hs : ∀ f, x.same f = true → ConSame P f) {f : FuncId} {fn : Func} (keep : Nat → Option (List Nat × List Nat)) (hf : P.funcs[f]? = some fn) (hb : fn.body = some (bodyOf fn)) (hok : regsOk (mkCfgX x tys eqs es fn.ntmps keep) (bodyOf fn) = true)
    (hn : (fn.name == "runtime.NumGoroutine") = false) {cells : List SC} {args : List D} (ha : Nat.ble (args.length + 1) fn.ntmps = true) (hbare : args.all D.bare = true) (hfl : flats cells = true) (hcb : cells.all SC.bare = true) {e : Int}
    {γ : Nat → Type} (T : (i : Nat) → γ i → List (Nat × D) × List (Nat × Blk)) (M : (i : Nat) → γ i → Nat)
    (hmain : (symMX x tys eqs z es fn keep cells args).holds (fun _ _ => False) (fun n => n = e) (Arr T fun _ _ => True))
    (hround : ∀ i g, i < nloops (bodyOf fn) → (symRX x tys eqs z es fn keep i (T i g).1 (T i g).2).holds (fun _ _ => False) (fun n => n = e) (Arr T fun j g' => M j g' < M i g)) : ConMDie P f cells args e := by
  have E := envOfX B h hs fn.ntmps keep
  exact conMDie_tree E (zeroFlat E) (body := bodyOf fn) ⟨hf, .inl hb, hok, hn, rfl⟩ (Nat.le_of_ble_eq_true ha) hbare hfl hcb T M 5000 hmain hround

theorem holds_and {t : Tr} {R R' : D → List SC → Prop} {Rd Rd' : Int → Prop} {A A' : Nat → List (Nat × D) → List (Nat × Blk) → Prop} (h : t.holds R Rd A) (h1 : ∀ d l, R d l → R' d l) (h2 : ∀ n, Rd n → Rd' n) (h3 : ∀ i v m, A i v m → A' i v m) : t.holds R' Rd' A' := by
  induction t with
  | ret d l => exact h1 _ _ h
  | die n => exact h2 _ h
  | ite b x y ihx ihy => exact ⟨fun e => ihx (h.1 e), fun e => ihy (h.2 e)⟩
  | req l k ih => exact ⟨h.1, ih h.2⟩
  | loop i v m => exact h3 _ _ _ h
  | back i v m => exact h3 _ _ _ h
  | fail => exact h.elim
end
end Go.Adit
