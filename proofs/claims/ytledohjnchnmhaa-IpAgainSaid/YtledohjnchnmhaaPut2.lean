/- Part of the proofs of the laws: lemmas and contracts, no statement of its own. -/
import Derived.Test.YtledohjnchnmhaaPut
set_option linter.unusedVariables false
set_option linter.unusedSimpArgs false
namespace Go.Adit
def c56 : List D → Option (D × List Bool)
  | [.s (.int .i64 x), .s (.int .i64 (.lit (.ofNat m)))] => match isGetSize m with
    | true => some (.s (.str (fPut (liConv .u64 x.li) m)), [])
    | false => none
  | _ => none
def e56 : Entry := ⟨56, none, c56, noCallm, noDie⟩
end Go.Adit

namespace Go.Adit
open Go.RowKit Go.Proofs
set_option maxRecDepth 100000
theorem con56_1 (n : Int) : Con Try.prog 56 [.s (.int .i64 (.sym n)), .s (.int .i64 (.lit 1))] (.s (.str (fPut (liConv .u64 n) 1))) :=
  con_flat tryBase (es := [e82]) (by intro e he; rcases List.mem_singleton.1 he with rfl; exact ok82) Try.func56 (by kernel_rfl) (by kernel_rfl) (by kernel_rfl) (by kernel_rfl) (by kernel_rfl)
  (t := .ret (.s (.str (fPut (liConv .u64 n) 1))) []) (by kernel_rfl) rfl

theorem con56_2 (n : Int) : Con Try.prog 56 [.s (.int .i64 (.sym n)), .s (.int .i64 (.lit 2))] (.s (.str (fPut (liConv .u64 n) 2))) :=
  con_flat tryBase (es := [e82]) (by intro e he; rcases List.mem_singleton.1 he with rfl; exact ok82) Try.func56 (by kernel_rfl) (by kernel_rfl) (by kernel_rfl) (by kernel_rfl) (by kernel_rfl)
  (t := .ret (.s (.str (fPut (liConv .u64 n) 2))) []) (by kernel_rfl) rfl

theorem con56_4 (n : Int) : Con Try.prog 56 [.s (.int .i64 (.sym n)), .s (.int .i64 (.lit 4))] (.s (.str (fPut (liConv .u64 n) 4))) :=
  con_flat tryBase (es := [e82]) (by intro e he; rcases List.mem_singleton.1 he with rfl; exact ok82) Try.func56 (by kernel_rfl) (by kernel_rfl) (by kernel_rfl) (by kernel_rfl) (by kernel_rfl)
  (t := .ret (.s (.str (fPut (liConv .u64 n) 4))) []) (by kernel_rfl) rfl

theorem ok56 : EntryOK Try.prog e56 := by
  refine EntryOK.pure fun args r req hc hq => ?_
  unfold c56 at hc
  split at hc
  · rename_i x m
    split at hc
    · rename_i hm
      simp only [Option.some.injEq, Prod.mk.injEq] at hc
      obtain ⟨rfl, rfl⟩ := hc
      have key : ∀ m : Nat, isGetSize m = true → Con Try.prog 56 [.s (.int .i64 (.sym x.li)), .s (.int .i64 (.lit (.ofNat m)))] (.s (.str (fPut (liConv .u64 x.li) m))) := by
        intro m hm
        unfold isGetSize at hm
        split at hm
        · exact con56_1 x.li
        · exact con56_2 x.li
        · exact con56_4 x.li
        · cases hm
      exact Con.args (key m hm) fun w vs hv => (match vs, hv with
        | [_, _], ⟨h0, h1, _⟩ => ⟨h0, h1, trivial⟩)
    · cases hc
  · cases hc
end Go.Adit
