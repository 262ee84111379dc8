/- Part of the proofs of the laws: lemmas and contracts, no statement of its own. -/
import Derived.Test.YtledohjnchnmhaaGet
set_option linter.unusedVariables false
set_option linter.unusedSimpArgs false
namespace Go.Adit
/-- the pairs of bytes of a text, summed; `odd`: a second byte comes first -/
def wordSum : Bool → List UInt8 → Nat
  | _, [] => 0
  | true, y :: r => y.toNat + wordSum false r
  | false, y :: r => 256 * y.toNat + wordSum true r
/-- a sum, its carries added until it fits -/
def foldN (n : Nat) : Nat := if n = 0 then 0 else (n - 1) % 65535 + 1
def fSum (parts : List (List UInt8)) : Int := 65535 - (foldN (wordSum false parts.flatten) : Int)
def fSumOk (parts : List (List UInt8)) : Bool := decide (parts.flatten.length ≤ 140737488355328)

theorem wordSum_le : ∀ (l : List UInt8) (o : Bool), wordSum o l ≤ 65280 * l.length
  | [], o => by cases o <;> simp [wordSum]
  | y :: r, true => by
    have := y.toNat_lt
    have := wordSum_le r false
    simp only [wordSum, List.length_cons]; omega
  | y :: r, false => by
    have := y.toNat_lt
    have := wordSum_le r true
    simp only [wordSum, List.length_cons]; omega

theorem foldN_le (n : Nat) : foldN n ≤ 65535 := by unfold foldN; split <;> omega
theorem foldN_small {n : Nat} (h : n ≤ 65535) : foldN n = n := by
  unfold foldN
  split
  · omega
  · rw [Nat.mod_eq_of_lt (by omega)]; omega
theorem foldN_step (n : Nat) : foldN (n / 65536 + n % 65536) = foldN n := by
  unfold foldN
  by_cases h : n = 0
  · subst h; rfl
  · have h2 : n / 65536 + n % 65536 ≠ 0 := by omega
    rw [if_neg h, if_neg h2]
    have : n - 1 = (n / 65536 + n % 65536 - 1) + 65535 * (n / 65536) := by omega
    rw [this, Nat.add_mul_mod_self_left]
end Go.Adit

namespace Go.Adit
open Go.RowKit Go.Proofs
set_option maxRecDepth 100000

theorem and_mask (n : Nat) (h : n < 2 ^ 64) : liAnd .u64 (n : Int) (liLit 65535) = ((n % 65536 : Nat) : Int) := by
  have e : liAnd .u64 (n : Int) (liLit 65535) = IntKind.u64.wrap ((BitVec.ofInt 64 (n : Int) &&& BitVec.ofInt 64 ((65535 : Nat) : Int)).toNat : Int) := rfl
  have h2 : (BitVec.ofInt 64 (n : Int) &&& BitVec.ofInt 64 ((65535 : Nat) : Int)).toNat = n % 65536 := by
    rw [BitVec.toNat_and, BitVec.ofInt_natCast, BitVec.ofInt_natCast, BitVec.toNat_ofNat, BitVec.toNat_ofNat, Nat.mod_eq_of_lt h]
    have := Nat.and_two_pow_sub_one_eq_mod n 16
    simpa using this
  rw [e, h2]
  exact wu64 (by omega) (by omega)
theorem shr16 (n : Nat) : liShr .u64 (n : Int) (liLit 16) = ((n / 65536 : Nat) : Int) := by
  have e : liShr .u64 (n : Int) (liLit 16) = (n : Int).fdiv (2 ^ 16) := rfl
  rw [e, Int.fdiv_eq_ediv_of_nonneg _ (by decide)]
  omega
theorem addu (a b : Nat) (h : a + b < 2 ^ 64) : liAdd .u64 (a : Int) (b : Int) = ((a + b : Nat) : Int) := by
  have : liAdd .u64 (a : Int) (b : Int) = IntKind.u64.wrap ((a : Int) + b) := rfl
  rw [this, wu64 (by omega) (by omega)]; omega
theorem shl8 (y : UInt8) : liShl .u64 (liConv .u64 (liOfByte y)) (liLit 8) = ((256 * y.toNat : Nat) : Int) := by
  have := y.toNat_lt
  rw [conv_byte, shl64, show min (liLit 8).toNat 64 = 8 from rfl, wu64 (by omega) (by omega)]
  omega

def kp58 : Nat → Option (List Nat × List Nat)
  | 0 => some ([8, 9, 10, 3, 4], [])
  | 1 => some ([8, 9, 10, 3, 4, 6, 15, 16], [])
  | 2 => some ([3], [])
  | _ => none

structure S0 (l : List (List UInt8)) where
  i : Nat
  s : Nat
  odd : Bool
  hi : i ≤ l.length
  hs : s + wordSum odd (l.drop i).flatten = wordSum false l.flatten
structure S1 (l : List (List UInt8)) where
  i : Nat
  j : Nat
  s : Nat
  odd : Bool
  hi : i < l.length
  hj : j ≤ (l.getD i []).length
  hs : s + wordSum odd ((l.getD i []).drop j ++ (l.drop (i + 1)).flatten) = wordSum false l.flatten
structure S2 (l : List (List UInt8)) where
  s : Nat
  hs : foldN s = foldN (wordSum false l.flatten)
  hle : s ≤ wordSum false l.flatten
def G58 (l : List (List UInt8)) : Nat → Type
  | 0 => S0 l
  | 1 => S1 l
  | 2 => S2 l
  | _ => Empty
def T58 (l : List (List UInt8)) : (i : Nat) → G58 l i → List (Nat × D) × List (Nat × Blk)
  | 0, g => let g : S0 l := g; ([(8, .s (.strs l)), (9, .s (.int .i64 (.sym (l.length : Int)))), (10, .s (.int .i64 (.sym (g.i : Int)))), (3, .s (.int .u64 (.sym (g.s : Int)))), (4, .s (.bool (.sym g.odd)))], [])
  | 1, g => let g : S1 l := g; ([(8, .s (.strs l)), (9, .s (.int .i64 (.sym (l.length : Int)))), (10, .s (.int .i64 (.sym (g.i : Int)))), (3, .s (.int .u64 (.sym (g.s : Int)))), (4, .s (.bool (.sym g.odd))), (6, .s (.str (l.getD g.i []))), (15, .s (.int .i64 (.sym ((l.getD g.i []).length : Int)))), (16, .s (.int .i64 (.sym (g.j : Int))))], [])
  | 2, g => let g : S2 l := g; ([(3, .s (.int .u64 (.sym (g.s : Int))))], [])
  | _ + 3, g => nomatch g
def rem58 (l : List (List UInt8)) (i : Nat) : Nat := ((l.drop i).map fun p => p.length + 3).sum
def M58 (l : List (List UInt8)) : (i : Nat) → G58 l i → Nat
  | 0, g => let g : S0 l := g; wordSum false l.flatten + 2 + rem58 l g.i + 1
  | 1, g => let g : S1 l := g; wordSum false l.flatten + 2 + ((l.getD g.i []).length - g.j) + 1 + rem58 l (g.i + 1) + 1
  | 2, g => let g : S2 l := g; g.s
  | _ + 3, g => nomatch g
theorem drop_getD (l : List (List UInt8)) (i : Nat) (h : i < l.length) : l.drop i = l.getD i [] :: l.drop (i + 1) := by
  rw [List.drop_eq_getElem_cons h]
  simp [List.getD_eq_getElem?_getD, h]
theorem rem58_step (l : List (List UInt8)) (i : Nat) (h : i < l.length) : rem58 l i = (l.getD i []).length + 3 + rem58 l (i + 1) := by
  unfold rem58
  rw [drop_getD l i h]
  simp

theorem ws_step (p q : List UInt8) (j : Nat) (h : j < p.length) : wordSum true (p.drop j ++ q) = (p.getD j 0).toNat + wordSum false (p.drop (j + 1) ++ q) ∧
    wordSum false (p.drop j ++ q) = 256 * (p.getD j 0).toNat + wordSum true (p.drop (j + 1) ++ q) := by
  rw [List.drop_eq_getElem_cons h]
  have : p.getD j 0 = p[j] := by simp [List.getD_eq_getElem?_getD, h]
  rw [this]
  exact ⟨rfl, rfl⟩

theorem con58 (l : List (List UInt8)) (hok : fSumOk l = true) : Con Try.prog 58 [.s (.strs l)] (.s (.int .i64 (.sym (fSum l)))) :=
  con_given Try.func58 (by kernel_rfl) (by kernel_rfl) fun w vs hv => by
  match vs, hv with
  | [_], ⟨⟨_, _, _, hlen, hcells⟩, _⟩ =>
  have hT : wordSum false l.flatten < 2 ^ 63 := by
    have h1 := wordSum_le l.flatten false
    simp only [fSumOk, decide_eq_true_eq] at hok
    omega
  have hpl : ∀ i, i < l.length → ((l.getD i []).length : Int) ≤ imax := by
    intro i hi
    rcases hcells with rfl | ⟨b, off, _, _, _, h5⟩
    · simp at hi
    · exact (h5 i (l.getD i []) (by simp [List.getD_eq_getElem?_getD, hi])).2
  simp only [imax] at hlen hpl
  refine con_loop tryBase (es := []) (fun _ h => nomatch h) kp58 Try.func58 (by kernel_rfl) (by kernel_rfl) (by kernel_rfl) (by kernel_rfl) (by kernel_rfl) (T58 l) (M58 l) ?_ ?_
  · have ht : symF tys eqTys zs [] Try.f58 kp58 [.s (.strs l)] = (.loop 0 [(8, .s (.strs l)), (9, .s (.int .i64 (.sym (liLenT l)))), (10, .s (.int .i64 (.lit 0))), (3, .s (.int .u64 (.lit 0))), (4, .s (.bool (.lit false)))] []) := by kernel_rfl
    rw [ht]
    exact ⟨(⟨0, 0, false, Nat.zero_le _, by simp⟩ : S0 l), trivial, rfl, rfl⟩
  · intro i g hi
    match i, g with
    | 0, g =>
      obtain ⟨i, s, odd, hi, hs⟩ := (g : S0 l)
      have ht : symR tys eqTys zs [] Try.f58 kp58 0 [(8, .s (.strs l)), (9, .s (.int .i64 (.sym (l.length : Int)))), (10, .s (.int .i64 (.sym (i : Int)))), (3, .s (.int .u64 (.sym (s : Int)))), (4, .s (.bool (.sym odd)))] [] =
        (.ite (lbLt i (l.length : Int))
 (.req [(lbLe (liLit 0) i), (lbLt i (liLenT l))]
  (.loop 1 [(8, .s (.strs l)), (9, .s (.int .i64 (.sym (l.length : Int)))), (10, .s (.int .i64 (.sym i))), (3, .s (.int .u64 (.sym s))), (4, .s (.bool (.sym odd))), (6, .s (.str (ltAt l i))), (15, .s (.int .i64 (.sym (liLen (ltAt l i))))), (16, .s (.int .i64 (.lit 0)))] []))
 (.loop 2 [(3, .s (.int .u64 (.sym s)))] [])) := by kernel_rfl
      show (symR tys eqTys zs [] Try.f58 kp58 0 [(8, .s (.strs l)), (9, .s (.int .i64 (.sym (l.length : Int)))), (10, .s (.int .i64 (.sym (i : Int)))), (3, .s (.int .u64 (.sym (s : Int)))), (4, .s (.bool (.sym odd)))] []).holds _ _ _
      rw [ht]
      simp only [Tr.holds, lbLt_t, lbLt_f]
      refine ⟨fun h => ⟨?_, ?_⟩, fun h => ?_⟩
      · intro q hq
        simp only [List.mem_cons, List.not_mem_nil, or_false] at hq
        rcases hq with rfl | rfl
        · rw [lbLe_t]; simp only [liLit]; omega
        · rw [lbLt_t]; exact h
      · have hi' : i < l.length := by omega
        refine ⟨(⟨i, 0, s, odd, hi', Nat.zero_le _, ?_⟩ : S1 l), ?_, rfl, rfl⟩
        · rw [← hs, drop_getD l i hi']; simp
        · have := rem58_step l i hi'
          simp only [M58]
          omega
      · have hi' : i = l.length := by omega
        subst hi'
        simp only [List.drop_length, List.flatten_nil] at hs
        have hs' : s = wordSum false l.flatten := by cases odd <;> simpa [wordSum] using hs
        refine ⟨(⟨s, by rw [hs'], by omega⟩ : S2 l), ?_, rfl, rfl⟩
        simp only [M58]
        omega
    | 1, g =>
      obtain ⟨i, j, s, odd, hi, hj, hs⟩ := (g : S1 l)
      have hpi := hpl i hi
      have ht : symR tys eqTys zs [] Try.f58 kp58 1 [(8, .s (.strs l)), (9, .s (.int .i64 (.sym (l.length : Int)))), (10, .s (.int .i64 (.sym (i : Int)))), (3, .s (.int .u64 (.sym (s : Int)))), (4, .s (.bool (.sym odd))), (6, .s (.str (l.getD i []))), (15, .s (.int .i64 (.sym ((l.getD i []).length : Int)))), (16, .s (.int .i64 (.sym (j : Int))))] [] =
        (.ite (lbLt j ((l.getD i []).length : Int))
 (.ite odd
  (.req [(lbLe (liLit 0) j), (lbLt j (liLen (l.getD i [])))]
   (.back 1 [(8, .s (.strs l)), (9, .s (.int .i64 (.sym (l.length : Int)))), (10, .s (.int .i64 (.sym i))), (3, .s (.int .u64 (.sym (liAdd .u64 s (liConv .u64 (liOfByte (lsAt (l.getD i []) j))))))), (4, .s (.bool (.sym (lbNot odd)))), (6, .s (.str (l.getD i []))), (15, .s (.int .i64 (.sym ((l.getD i []).length : Int)))), (16, .s (.int .i64 (.sym (liAdd .i64 j (liLit 1)))))] []))
  (.req [(lbLe (liLit 0) j), (lbLt j (liLen (l.getD i [])))]
   (.back 1 [(8, .s (.strs l)), (9, .s (.int .i64 (.sym (l.length : Int)))), (10, .s (.int .i64 (.sym i))), (3, .s (.int .u64 (.sym (liAdd .u64 s (liShl .u64 (liConv .u64 (liOfByte (lsAt (l.getD i []) j))) (liLit 8)))))), (4, .s (.bool (.sym (lbNot odd)))), (6, .s (.str (l.getD i []))), (15, .s (.int .i64 (.sym ((l.getD i []).length : Int)))), (16, .s (.int .i64 (.sym (liAdd .i64 j (liLit 1)))))] [])))
 (.back 0 [(8, .s (.strs l)), (9, .s (.int .i64 (.sym (l.length : Int)))), (10, .s (.int .i64 (.sym (liAdd .i64 i (liLit 1))))), (3, .s (.int .u64 (.sym s))), (4, .s (.bool (.sym odd)))] [])) := by kernel_rfl
      show (symR tys eqTys zs [] Try.f58 kp58 1 [(8, .s (.strs l)), (9, .s (.int .i64 (.sym (l.length : Int)))), (10, .s (.int .i64 (.sym (i : Int)))), (3, .s (.int .u64 (.sym (s : Int)))), (4, .s (.bool (.sym odd))), (6, .s (.str (l.getD i []))), (15, .s (.int .i64 (.sym ((l.getD i []).length : Int)))), (16, .s (.int .i64 (.sym (j : Int))))] []).holds _ _ _
      rw [ht]
      have hreq : (j : Int) < (l.getD i []).length → ∀ q ∈ [lbLe (liLit 0) (j : Int), lbLt (j : Int) (liLen (l.getD i []))], q = true := by
        intro h q hq
        simp only [List.mem_cons, List.not_mem_nil, or_false] at hq
        rcases hq with rfl | rfl
        · rw [lbLe_t]; simp only [liLit]; omega
        · rw [lbLt_t]; exact h
      have e1 : (j : Int) < (l.getD i []).length → liAdd .i64 (j : Int) (liLit 1) = ((j + 1 : Nat) : Int) := fun h => by rw [add64 (by simp only [liLit]; omega) (by simp only [liLit]; omega)]; simp only [liLit]; omega
      simp only [Tr.holds, lbLt_t, lbLt_f]
      refine ⟨fun h => ⟨fun ho => ⟨hreq h, ?_⟩, fun ho => ⟨hreq h, ?_⟩⟩, fun h => ?_⟩
      · have hj' : j < (l.getD i []).length := by omega
        have hw := (ws_step (l.getD i []) (l.drop (i + 1)).flatten j hj').1
        rw [ho, hw] at hs
        have hy := ((l.getD i []).getD j 0).toNat_lt
        have e2 : liAdd .u64 (s : Int) (liConv .u64 (liOfByte (lsAt (l.getD i []) (j : Int)))) = ((s + ((l.getD i []).getD j 0).toNat : Nat) : Int) := by
          rw [conv_byte, show lsAt (l.getD i []) (j : Int) = (l.getD i []).getD j 0 from rfl]; exact addu _ _ (by omega)
        rw [e1 h, e2]
        refine ⟨(⟨i, j + 1, s + ((l.getD i []).getD j 0).toNat, !odd, hi, hj', ?_⟩ : S1 l), ?_, rfl, rfl⟩
        · rw [ho, ← hs]
          simp only [Bool.not_true]
          omega
        · simp only [M58]; omega
      · have hj' : j < (l.getD i []).length := by omega
        have hw := (ws_step (l.getD i []) (l.drop (i + 1)).flatten j hj').2
        rw [ho, hw] at hs
        have hy := ((l.getD i []).getD j 0).toNat_lt
        have e2 : liAdd .u64 (s : Int) (liShl .u64 (liConv .u64 (liOfByte (lsAt (l.getD i []) (j : Int)))) (liLit 8)) = ((s + 256 * ((l.getD i []).getD j 0).toNat : Nat) : Int) := by
          rw [shl8, show lsAt (l.getD i []) (j : Int) = (l.getD i []).getD j 0 from rfl]; exact addu _ _ (by omega)
        rw [e1 h, e2]
        refine ⟨(⟨i, j + 1, s + 256 * ((l.getD i []).getD j 0).toNat, !odd, hi, hj', ?_⟩ : S1 l), ?_, rfl, rfl⟩
        · rw [ho, ← hs]
          simp only [Bool.not_false]
          omega
        · simp only [M58]; omega
      · have hj' : j = (l.getD i []).length := by omega
        subst hj'
        have e3 : liAdd .i64 (i : Int) (liLit 1) = ((i + 1 : Nat) : Int) := by rw [add64 (by simp only [liLit]; omega) (by simp only [liLit]; omega)]; simp only [liLit]; omega
        rw [e3]
        refine ⟨(⟨i + 1, s, odd, hi, ?_⟩ : S0 l), ?_, rfl, rfl⟩
        · rw [← hs]; simp
        · simp only [M58]; omega
    | 2, g =>
      obtain ⟨s, hs, hle⟩ := (g : S2 l)
      have ht : symR tys eqTys zs [] Try.f58 kp58 2 [(3, .s (.int .u64 (.sym (s : Int))))] [] =
        (.ite (lbLt (liLit 65535) s)
 (.back 2 [(3, .s (.int .u64 (.sym (liAdd .u64 (liShr .u64 s (liLit 16)) (liAnd .u64 s (liLit 65535))))))] [])
 (.ret (.s (.int .i64 (.sym (liConv .i64 (liSub .u64 (liLit 65535) s))))) [])) := by kernel_rfl
      show (symR tys eqTys zs [] Try.f58 kp58 2 [(3, .s (.int .u64 (.sym (s : Int))))] []).holds _ _ _
      rw [ht]
      simp only [Tr.holds, lbLt_t, lbLt_f]
      refine ⟨fun h => ?_, fun h => ?_⟩
      · simp only [liLit] at h
        rw [shr16, and_mask s (by omega), addu _ _ (by omega)]
        refine ⟨(⟨s / 65536 + s % 65536, by rw [foldN_step, hs], by omega⟩ : S2 l), ?_, rfl, rfl⟩
        simp only [M58]
        omega
      · simp only [liLit] at h
        refine sI_norm ?_
        have e1 : liSub .u64 (liLit 65535) (s : Int) = 65535 - (s : Int) := by
          have : liSub .u64 (liLit 65535) (s : Int) = IntKind.u64.wrap (65535 - (s : Int)) := rfl
          rw [this, wu64 (by omega) (by omega)]
        rw [e1]
        have : liConv .i64 (65535 - (s : Int)) = 65535 - (s : Int) := wi64 (by omega) (by omega)
        rw [this, fSum, ← hs, foldN_small (by omega)]
    | n + 3, g => exact nomatch g
end Go.Adit
