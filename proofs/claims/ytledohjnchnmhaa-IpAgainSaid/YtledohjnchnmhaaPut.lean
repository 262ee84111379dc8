/- Part of the proofs of the laws: lemmas and contracts, no statement of its own. -/
import Derived.Test.YtledohjnchnmhaaGet
set_option linter.unusedVariables false
set_option linter.unusedSimpArgs false
namespace Go.Adit
open Go.RowKit Go.Proofs
set_option maxRecDepth 100000
/-- the i-th byte from behind of a number -/
def byteOf (n : Int) (i : Nat) : UInt8 := lyOfInt (liConv .u8 (liShr .u64 n (liLit ((8 * i : Nat) : Int))))
def fPut (n : Int) : Nat → List UInt8
  | 0 => []
  | k + 1 => byteOf n k :: fPut n k
end Go.Adit

namespace Go.Adit
def c82 : List D → Option (D × List Bool)
  | [.s (.int .u64 x), .s (.int .i64 (.lit (.ofNat m)))] => match isGetSize m with
    | true => some (.s (.str (fPut x.li m)), [])
    | false => none
  | _ => none
def e82 : Entry := ⟨82, none, c82, noCallm, noDie⟩
end Go.Adit

namespace Go.Adit
open Go.RowKit Go.Proofs
set_option maxRecDepth 100000
theorem con82_1 (n : Int) : Con Try.prog 82 [.s (.int .u64 (.sym n)), .s (.int .i64 (.lit 1))] (.s (.str (fPut n 1))) :=
  con_flat tryBase (es := []) (fun _ h => nomatch h) Try.func82 (by kernel_rfl) (by kernel_rfl) (by kernel_rfl) (by kernel_rfl) (by kernel_rfl)
  (t := .ret (.s (.str (lsOf [(lyOfInt (liConv .u8 (liShr .u64 n (liLit 0))))]))) []) (by kernel_rfl) rfl

theorem con82_2 (n : Int) : Con Try.prog 82 [.s (.int .u64 (.sym n)), .s (.int .i64 (.lit 2))] (.s (.str (fPut n 2))) :=
  con_flat tryBase (es := []) (fun _ h => nomatch h) Try.func82 (by kernel_rfl) (by kernel_rfl) (by kernel_rfl) (by kernel_rfl) (by kernel_rfl)
  (t := .ret (.s (.str (lsOf [(lyOfInt (liConv .u8 (liShr .u64 n (liLit 8)))), (lyOfInt (liConv .u8 (liShr .u64 n (liLit 0))))]))) []) (by kernel_rfl) rfl

theorem con82_4 (n : Int) : Con Try.prog 82 [.s (.int .u64 (.sym n)), .s (.int .i64 (.lit 4))] (.s (.str (fPut n 4))) :=
  con_flat tryBase (es := []) (fun _ h => nomatch h) Try.func82 (by kernel_rfl) (by kernel_rfl) (by kernel_rfl) (by kernel_rfl) (by kernel_rfl)
  (t := .ret (.s (.str (lsOf [(lyOfInt (liConv .u8 (liShr .u64 n (liLit 24)))), (lyOfInt (liConv .u8 (liShr .u64 n (liLit 16)))), (lyOfInt (liConv .u8 (liShr .u64 n (liLit 8)))), (lyOfInt (liConv .u8 (liShr .u64 n (liLit 0))))]))) []) (by kernel_rfl) rfl

theorem ok82 : EntryOK Try.prog e82 := by
  refine EntryOK.pure fun args r req hc hq => ?_
  unfold c82 at hc
  split at hc
  · rename_i x m
    split at hc
    · rename_i hm
      simp only [Option.some.injEq, Prod.mk.injEq] at hc
      obtain ⟨rfl, rfl⟩ := hc
      have key : ∀ m : Nat, isGetSize m = true → Con Try.prog 82 [.s (.int .u64 (.sym x.li)), .s (.int .i64 (.lit (.ofNat m)))] (.s (.str (fPut x.li m))) := by
        intro m hm
        unfold isGetSize at hm
        split at hm
        · exact con82_1 x.li
        · exact con82_2 x.li
        · exact con82_4 x.li
        · cases hm
      exact Con.args (key m hm) fun w vs hv => (match vs, hv with
        | [_, _], ⟨h0, h1, _⟩ => ⟨h0, h1, trivial⟩)
    · cases hc
  · cases hc
end Go.Adit
