/- Part of the proofs of the laws: lemmas and contracts, no statement of its own. -/
import Derived.Test.YtledohjnchnmhaaF2
import Derived.Test.YtledohjnchnmhaaNum
import Derived.Test.YtledohjnchnmhaaSum
set_option linter.unusedVariables false
set_option linter.unusedSimpArgs false
namespace Go.Adit
open Go.RowKit Go.Proofs
def c58 : List D → Option (D × List Bool)
  | [.s (.strs x0)] => some (.s (.int .i64 (.sym (fSum x0))), [fSumOk x0])
  | _ => none
def e58 : Entry := ⟨58, none, c58, noCallm, noDie⟩
theorem ok58 : EntryOK Try.prog e58 := by
  refine EntryOK.pure fun args r req hc hq => ?_
  unfold c58 at hc
  split at hc
  · rename_i l
    simp only [Option.some.injEq, Prod.mk.injEq] at hc
    obtain ⟨rfl, rfl⟩ := hc
    exact con58 l (hq _ (.head _))
  · cases hc
end Go.Adit

namespace Go.Adit
open Go.RowKit Go.Proofs
/-- the number in so many bytes of a text -/
def num (b : List UInt8) (k m : Nat) : Nat := beNat ((b.drop k).take m)

theorem num_lt (b : List UInt8) (k m : Nat) (h : k + m ≤ b.length) : num b k m < 256 ^ m := by
  have := beNat_lt ((b.drop k).take m)
  rwa [show ((b.drop k).take m).length = m by simp; omega] at this

theorem fTake_eq (b : List UInt8) (k m : Nat) (h : k + m ≤ b.length) : fTake b (k : Int) (m : Int) = (b.drop k).take m := by
  simp only [fTake, lsSub]
  rw [show ((k : Int) + m).toNat = k + m by omega, show (k : Int).toNat = k from rfl, List.drop_take]
  rw [show k + m - k = m by omega]

theorem fNum_eq (b : List UInt8) (k m : Nat) (h : k + m ≤ b.length) (hm : m ≤ 4) : fNum b (k : Int) m = (num b k m : Int) := by
  have hl : ((b.drop k).take m).length = m := by simp; omega
  have e1 : fTake b (k : Int) (liLit (m : Int)) = (b.drop k).take m := fTake_eq b k m h
  have hb : ¬ fGetBad ((b.drop k).take m) (liLit 0) m = true := by
    simp only [fGetBad, Bool.or_eq_true, lbLt_t, liLit_eq, liLen_eq, hl]; omega
  have hn : num b k m < 2 ^ 63 := by
    have := num_lt b k m h
    have : 256 ^ m ≤ 256 ^ 4 := Nat.pow_le_pow_right (by omega) hm
    omega
  simp only [fNum, fGetN, e1]
  simp only [fGet, if_neg hb]
  rw [show (liLit 0 : Int).toNat = 0 from rfl, List.drop_zero, List.take_of_length_le (by omega)]
  exact wi64 (by omega) (by show ((num b k m : Nat) : Int) ≤ _; omega)

theorem not_short (b : List UInt8) (k m : Nat) (h : k + m ≤ b.length) : fShortBy b (liLit (k : Int)) (liLit (m : Int)) = false := by
  simp only [fShortBy, fFits, and_f, not_f, and_t, lbLe_t, fLeft, liLen_eq, liLit_eq]
  right
  omega
theorem fits_at (b : List UInt8) (k : Nat) (h : k ≤ b.length) : fFits b (liLit (k : Int)) = true := by
  simp only [fFits, and_t, lbLe_t, liLen_eq, liLit_eq]; omega
end Go.Adit
