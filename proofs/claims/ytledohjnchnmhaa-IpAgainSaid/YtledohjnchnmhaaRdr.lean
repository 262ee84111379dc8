/- Part of the proofs of the laws: lemmas and contracts, no statement of its own. -/
import Derived.ProofKit
import Derived.Test.YtledohjnchnmhaaF1
import Derived.WalkSmall
set_option linter.unusedVariables false
set_option linter.unusedSimpArgs false
namespace Go.Adit
def c75 : List D → Option (D × List Bool)
  | [.s (.bool _), .s (.int .i64 (.lit _))] => some (.tup [], [])
  | _ => none
def d75 : List SC → List D → Option (BV × Int)
  | [], [.s (.bool x), .s (.int .i64 (.lit n))] => some (bvNot x, n)
  | _, _ => none
def e75 : Entry := ⟨75, none, c75, noCallm, d75⟩
end Go.Adit

namespace Go.Adit
open Go.RowKit Go.Proofs
set_option maxRecDepth 100000
theorem die75 (n : Int) (w : World) : Calls Try.prog 75 #[.bool false, .int .i64 n] w fun e w' => e = .panicked (errChain n) ∧ Below w.heap.size w w' := by
  go_enter Try.func75, Try.ntmps75
  go_wp2
  exact ⟨rfl, rfl, Below.refl _ _⟩

theorem con75 (n : Int) : Con Try.prog 75 [.s (.bool (.lit true)), .s (.int .i64 (.sym n))] (.tup []) := con_flat tryBase (es := []) (fun _ h => nomatch h) Try.func75 (by kernel_rfl) (by kernel_rfl) (by kernel_rfl) (by kernel_rfl) (by kernel_rfl)
  (t := .ret (.tup []) []) (by kernel_rfl) rfl

theorem ok75 : EntryOK Try.prog e75 := by
  refine ⟨fun args r req _ hd hc hq => ?_, fun _ _ _ _ _ h1 => (nomatch h1), fun args b n _ hd hb => ?_, fun _ _ _ _ h1 => (nomatch h1)⟩
  · simp only [e75] at hc hd ⊢
    unfold c75 at hc
    split at hc
    · rename_i x y
      simp only [Option.some.injEq, Prod.mk.injEq] at hc
      obtain ⟨rfl, rfl⟩ := hc
      have hx : x.lb = true := by have := hd (bvNot x) y rfl; rw [bvNot_lb] at this; simpa using this
      exact Con.args (con75 y) fun w vs hv => (match vs, hv with
        | [_, _], ⟨h0, h1, _⟩ => ⟨(show _ = Value.bool true from hx ▸ h0), h1, trivial⟩)
    · cases hc
  · simp only [e75] at hd ⊢
    unfold d75 at hd
    split at hd
    · rename_i xb n1 _
      simp only [Option.some.injEq, Prod.mk.injEq] at hd
      obtain ⟨rfl, rfl⟩ := hd
      rw [bvNot_lb] at hb
      refine ⟨(con75 0).1, fun w vs hv => ?_⟩
      match vs, hv with
      | [_, _], ⟨h0, h1, _⟩ =>
        rw [show _ = _ from h0, h1.1]
        have hx : xb.lb = false := by simpa using hb
        rw [hx]
        exact die75 _ w
    · cases hd
end Go.Adit

namespace Go.Adit
def m118 : List SC → List D → Option (D × List SC × List Bool)
  | [.str b, .int .i64 x], [] => some (.s (.int .i64 (.sym (fLeft b x.li))), [.str b, .int .i64 x], [fFits b x.li])
  | _, _ => none
def e118 : Entry := ⟨118, some 2, noCall, m118, noDie⟩
def m117 : List SC → List D → Option (D × List SC × List Bool)
  | [.str b, .int .i64 x], [.s (.int .i64 n)] => some (.s (.str (fTake b x.li n.li)), [.str b, .int .i64 (.sym (fAdv x.li n.li))], [fFits b x.li])
  | _, _ => none
def d117 : List SC → List D → Option (BV × Int)
  | [.str b, .int .i64 x], [.s (.int .i64 n)] => some (.sym (fShortBy b x.li n.li), 72)
  | _, _ => none
def e117 : Entry := ⟨117, some 2, noCall, m117, d117⟩
end Go.Adit

namespace Go.Adit
open Go.RowKit Go.Proofs
set_option maxRecDepth 100000

theorem con118 (b : List UInt8) (x : Int) (hf : fFits b x = true) : ConM Try.prog 118 [.str b, .int .i64 (.sym x)] [] (.s (.int .i64 (.sym (fLeft b x)))) [.str b, .int .i64 (.sym x)] :=
  conM_given Try.func118 (by kernel_rfl) (by kernel_rfl) fun w bb cs vs h1 hv =>
  conM_flat tryBase (es := []) (fun _ h => nomatch h) Try.func118 (by kernel_rfl) (by kernel_rfl) (by kernel_rfl) (by kernel_rfl) (by kernel_rfl) (by kernel_rfl) (by kernel_rfl)
    (t := .ret (.s (.int .i64 (.sym (liSub .i64 (liLen b) x)))) [.str b, .int .i64 (.sym x)]) (by kernel_rfl) (by
    match cs, h1 with
    | [_, _], ⟨⟨_, hb⟩, ⟨_, hx⟩, _⟩ =>
      simp only [fFits, and_t, lbLe_t, liLen_eq] at hf
      simp only [imax] at hb
      refine ⟨?_, rfl, by simp⟩
      simp only [fLeft, liLen_eq]
      rw [sub64 (by omega) (by omega)])

theorem ok118 : EntryOK Try.prog e118 := by
  refine ⟨fun _ _ _ h => (nomatch h), fun cells args r cells' req _ hd hc hq => ?_, fun _ _ _ _ h1 => (nomatch h1), fun _ _ _ _ _ h1 => (nomatch h1)⟩
  simp only [e118] at hc ⊢
  unfold m118 at hc
  split at hc
  · rename_i b x _
    simp only [Option.some.injEq, Prod.mk.injEq] at hc
    obtain ⟨rfl, rfl, rfl⟩ := hc
    exact ConM.args (con118 b x.li (hq _ (.head _))) (fun _ _ vs h => (match vs, h with
      | [_, _], ⟨h0, h1, _⟩ => ⟨h0, h1, trivial⟩)) (fun _ _ _ h => h) (by simp [SC.norm, IV.li])
  · cases hc

theorem con117 (b : List UInt8) (x n : Int) (hf : fFits b x = true) (hs : fShortBy b x n = false) : ConM Try.prog 117 [.str b, .int .i64 (.sym x)] [.s (.int .i64 (.sym n))] (.s (.str (fTake b x n))) [.str b, .int .i64 (.sym (fAdv x n))] :=
  conM_given Try.func117 (by kernel_rfl) (by kernel_rfl) fun w bb cs vs h1 hv =>
  conM_flat tryBase (es := [e75, e118]) (by intro e he; rcases List.mem_cons.1 he with rfl | he; exact ok75; rcases List.mem_singleton.1 he with rfl; exact ok118) Try.func117 (by kernel_rfl) (by kernel_rfl) (by kernel_rfl) (by kernel_rfl) (by kernel_rfl) (by kernel_rfl) (by kernel_rfl)
    (t := (.ite (lbLe (liLit 0) n)
 (.ite (lbNot (lbLe n (fLeft b x)))
  (.req [(fFits b x)]
   (.die (72)))
  (.req [(fFits b x)]
   (.req [(lbLe (liLit 0) (liSub .i64 (liAdd .i64 x n) n)), (lbLe (liSub .i64 (liAdd .i64 x n) n) (liAdd .i64 x n)), (lbLe (liLit 0) (liAdd .i64 x n)), (lbLe (liAdd .i64 x n) (liLen b))]
    (.ret (.s (.str (lsSub b (liSub .i64 (liAdd .i64 x n) n) (liAdd .i64 x n)))) [.str b, .int .i64 (.sym (liAdd .i64 x n))]))))
 (.req []
  (.die (72))))) (by kernel_rfl) (by
    match cs, vs, h1, hv with
    | [_, _], [_], ⟨⟨_, hb⟩, ⟨_, hx⟩, _⟩, ⟨⟨_, hn⟩, _⟩ =>
      have hf' := hf
      simp only [fFits, and_t, lbLe_t, liLen_eq] at hf
      simp only [imax] at hb
      have hn' : 0 ≤ n ∧ n ≤ (b.length : Int) - x := by
        simp only [fShortBy, hf', Bool.true_and, not_f, and_t, lbLe_t, fLeft, liLen_eq] at hs
        exact hs
      have e1 : liAdd .i64 x n = x + n := add64 (by omega) (by omega)
      have e2 : liSub .i64 (x + n) n = x := by rw [sub64 (by omega) (by omega)]; omega
      simp only [Tr.holds, e1, e2, lbLe_t, lbLe_f, lbNot_t, lbNot_f, liLit_eq, fLeft, liLen_eq, fTake, fAdv]
      refine ⟨fun _ => ⟨fun h => ?_, fun _ => ⟨?_, ?_, trivial, trivial, by simp⟩⟩, fun h => ?_⟩
      · omega
      · intro q hq
        rcases List.mem_singleton.1 hq with rfl
        exact hf'
      · intro q hq
        simp only [List.mem_cons, List.not_mem_nil, or_false] at hq
        rcases hq with rfl | rfl | rfl | rfl
        · rw [lbLe_t]; omega
        · rw [lbLe_t]; omega
        · rw [lbLe_t]; omega
        · rw [lbLe_t]; omega
      · omega)

theorem die117 (b : List UInt8) (x n : Int) (hs : fShortBy b x n = true) : ConMDie Try.prog 117 [.str b, .int .i64 (.sym x)] [.s (.int .i64 (.sym n))] 72 :=
  conMDie_given Try.func117 (by kernel_rfl) (by kernel_rfl) fun w bb cs vs h1 hv =>
  conMDie_flat tryBase (es := [e75, e118]) (by intro e he; rcases List.mem_cons.1 he with rfl | he; exact ok75; rcases List.mem_singleton.1 he with rfl; exact ok118) Try.func117 (by kernel_rfl) (by kernel_rfl) (by kernel_rfl) (by kernel_rfl) (by kernel_rfl) (by kernel_rfl) (by kernel_rfl)
    (t := (.ite (lbLe (liLit 0) n)
 (.ite (lbNot (lbLe n (fLeft b x)))
  (.req [(fFits b x)]
   (.die (72)))
  (.req [(fFits b x)]
   (.req [(lbLe (liLit 0) (liSub .i64 (liAdd .i64 x n) n)), (lbLe (liSub .i64 (liAdd .i64 x n) n) (liAdd .i64 x n)), (lbLe (liLit 0) (liAdd .i64 x n)), (lbLe (liAdd .i64 x n) (liLen b))]
    (.ret (.s (.str (lsSub b (liSub .i64 (liAdd .i64 x n) n) (liAdd .i64 x n)))) [.str b, .int .i64 (.sym (liAdd .i64 x n))]))))
 (.req []
  (.die (72))))) (by kernel_rfl) (by
      simp only [fShortBy, Bool.and_eq_true, Bool.not_eq_true', Bool.and_eq_false_iff] at hs
      obtain ⟨hf, hs⟩ := hs
      simp only [Tr.holds, hf, liLit, lbNot]
      refine ⟨fun h => ⟨fun h' => ⟨by simp, trivial⟩, fun h' => ?_⟩, fun h => ⟨by simp, trivial⟩⟩
      simp at h'
      rcases hs with hs | hs
      · rw [h] at hs; cases hs
      · rw [h'] at hs; cases hs)

theorem ok117 : EntryOK Try.prog e117 := by
  refine ⟨fun _ _ _ h => (nomatch h), fun cells args r cells' req _ hd hc hq => ?_, fun _ _ _ h1 => (nomatch h1), fun cells args b n _ hd hb => ?_⟩
  · simp only [e117] at hc hd ⊢
    unfold m117 at hc
    split at hc
    · rename_i b x n _
      simp only [Option.some.injEq, Prod.mk.injEq] at hc
      obtain ⟨rfl, rfl, rfl⟩ := hc
      exact ConM.args (con117 b x.li n.li (hq _ (.head _)) (hd _ _ rfl)) (fun _ _ vs h => (match vs, h with
        | [_, _], ⟨h0, h1, _⟩ => ⟨h0, h1, trivial⟩)) (fun _ _ vs h => (match vs, h with
        | [_], ⟨h0, _⟩ => ⟨h0, trivial⟩)) rfl
    · cases hc
  · simp only [e117] at hd ⊢
    unfold d117 at hd
    split at hd
    · rename_i bb x nn _
      simp only [Option.some.injEq, Prod.mk.injEq] at hd
      obtain ⟨rfl, rfl⟩ := hd
      exact ConMDie.args (die117 bb x.li nn.li hb) (fun _ _ vs h => (match vs, h with
        | [_, _], ⟨h0, h1, _⟩ => ⟨h0, h1, trivial⟩)) (fun _ _ vs h => (match vs, h with
        | [_], ⟨h0, _⟩ => ⟨h0, trivial⟩))
    · cases hd
end Go.Adit
