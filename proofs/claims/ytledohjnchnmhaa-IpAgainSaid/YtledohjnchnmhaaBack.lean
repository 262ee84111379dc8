/- Part of the proofs of the laws: lemmas and contracts, no statement of its own. -/
import Derived.LoopIn
import Derived.LoopNIn
import Derived.OwnWalkIn
import Derived.RangeFuncBound
import Derived.RangeFuncBox
import Derived.RangeFuncCalls
import Derived.RangeFuncLeaves
import Derived.RangeFuncNested
import Derived.Shelf.Abstract
import Derived.TacticsInMore
import Derived.Test.YtledohjnchnmhaaSp
import Derived.WalkKit
set_option linter.unusedVariables false
set_option linter.unusedSimpArgs false
namespace Go.Adit
open Go.RowKit Go.Proofs Go.Shelf
attribute [local go_sem] Oper.semAt_some
def extV (e : Ext) : Value := .agg #[.int .i64 e.kind, .string ⟨⟨e.body⟩⟩]
def backAt (l : List Ext) (j : Nat) : Int × Ext := (((l.length - 1 - j : Nat) : Int), l.getD (l.length - 1 - j) ⟨0, []⟩)
def GoodE (e : Ext) : Prop := e.body.length ≤ 2046 ∧ inR .i64 e.kind
abbrev GX := {x : Int × Ext // GoodE x.2}
theorem good_zero : GoodE ⟨0, []⟩ := ⟨by simp, by simp [inR, IntKind.min, IntKind.max, IntKind.signed, IntKind.bits]⟩
theorem good_at {l : List Ext} (h : ∀ e ∈ l, GoodE e) (j : Nat) : GoodE (backAt l j).2 := by
  unfold backAt
  simp only
  rcases Nat.lt_or_ge (l.length - 1 - j) l.length with hl | hl
  · rw [show l.getD (l.length - 1 - j) ⟨0, []⟩ = l[l.length - 1 - j] by simp [List.getD_eq_getElem?_getD, hl]]
    exact h _ (List.getElem_mem hl)
  · rw [show l.getD (l.length - 1 - j) ⟨0, []⟩ = ⟨0, []⟩ by rw [List.getD_eq_getElem?_getD, List.getElem?_eq_none hl]; rfl]
    exact good_zero
def backG (l : List Ext) (h : ∀ e ∈ l, GoodE e) (j : Nat) : GX := ⟨backAt l j, good_at h j⟩
def upto (f : Nat → GX) (k : Nat) : List GX := (List.range k).map f
theorem upto_succ (f : Nat → GX) (k : Nat) : upto f (k + 1) = upto f k ++ [f k] := by simp [upto, List.range_succ]
theorem upto_length (f : Nat → GX) (k : Nat) : (upto f k).length = k := by simp [upto]
set_option maxRecDepth 100000 in
set_option maxHeartbeats 2000000 in
theorem back_in (F : Fence) (n : Nat) (h59 : F.fn 59) (hro : F.round = none) (a : Option Go.Addr) (len cap : Nat) (w : World) :
    CallsIn F n Try.prog 59 #[.slice a len cap] w fun e w' => e = .returned (.func (.func 109) #[] #[.pointer (some ⟨w.heap.size, 0, none⟩)]) ∧ w' = w.alloc (.cells #[.slice a len cap] 25) := by
  refine callsIn_of_wp Try.func59 rfl h59 ?_ hro
  simp only [Try.ntmps59, List.size_toArray, List.length_cons, List.length_nil, Nat.reduceAdd, Nat.reduceSub, Array.replicate_succ, Array.replicate_zero, List.push_toArray, List.append_toArray, List.nil_append, List.cons_append]
  gi_wp2
  go_ret
  exact ⟨rfl, rfl⟩
end Go.Adit
