/- Part of the proofs of the laws: lemmas and contracts, no statement of its own. -/
import Derived.Test.YtledohjnchnmhaaF1
set_option linter.unusedVariables false
set_option linter.unusedSimpArgs false
namespace Go.Adit
open Go.RowKit Go.Proofs
theorem or64 (a b : Int) : liOr .u64 a b = IntKind.u64.wrap ((BitVec.ofInt 64 a ||| BitVec.ofInt 64 b).toNat : Int) := rfl
theorem shl64 (a b : Int) : liShl .u64 a b = IntKind.u64.wrap (a * 2 ^ (min b.toNat 64)) := rfl
theorem conv_byte (y : UInt8) : liConv .u64 (liOfByte y) = (y.toNat : Int) := by
  have h := y.toNat_lt
  simp only [liConv, liOfByte]
  exact wu64 (by omega) (by omega)
theorem or64_nat {m n : Nat} (hm : m < 2 ^ 64) (hn : n < 2 ^ 64) : liOr .u64 (m : Int) (n : Int) = ((m ||| n : Nat) : Int) := by
  have h : (BitVec.ofInt 64 (m : Int) ||| BitVec.ofInt 64 (n : Int)).toNat = m ||| n := by
    rw [BitVec.toNat_or, BitVec.ofInt_natCast, BitVec.ofInt_natCast, BitVec.toNat_ofNat, BitVec.toNat_ofNat, Nat.mod_eq_of_lt hm, Nat.mod_eq_of_lt hn]
  have hl := Nat.or_lt_two_pow hm hn
  rw [or64, h]
  exact wu64 (by omega) (by omega)
theorem or_first (y : UInt8) : liOr .u64 (liLit 0) (liConv .u64 (liOfByte y)) = (y.toNat : Int) := by
  have h := y.toNat_lt
  rw [conv_byte]
  have := or64_nat (m := 0) (n := y.toNat) (by omega) (by omega)
  rw [Nat.zero_or] at this
  exact this
theorem or_next (n : Nat) (h : n < 2 ^ 56) (y : UInt8) : liOr .u64 (liShl .u64 (n : Int) (liLit 8)) (liConv .u64 (liOfByte y)) = ((n * 256 + y.toNat : Nat) : Int) := by
  have hy := y.toNat_lt
  have e2 : liShl .u64 (n : Int) (liLit 8) = ((n * 256 : Nat) : Int) := by
    rw [shl64]
    rw [show min (liLit 8).toNat 64 = 8 from rfl]
    rw [wu64 (by omega) (by omega)]
    omega
  rw [conv_byte, e2, or64_nat (by omega) (by omega)]
  have := Nat.two_pow_add_eq_or_of_lt (i := 8) (b := y.toNat) (by omega) n
  rw [show n * 256 = 2 ^ 8 * n by omega, ← this]
/-- a number, its first byte first -/
def beNat (l : List UInt8) : Nat := l.foldl (fun n y => n * 256 + y.toNat) 0
theorem beFold_lt : ∀ (l : List UInt8) (n k : Nat), n < 256 ^ k → l.foldl (fun n y => n * 256 + y.toNat) n < 256 ^ (k + l.length)
  | [], n, k, h => by simpa using h
  | y :: l, n, k, h => by
    have hy := y.toNat_lt
    simp only [List.foldl_cons, List.length_cons]
    have := beFold_lt l (n * 256 + y.toNat) (k + 1) (by rw [Nat.pow_succ]; omega)
    rw [show k + (l.length + 1) = k + 1 + l.length by omega]
    exact this
theorem beNat_lt (l : List UInt8) : beNat l < 256 ^ l.length := by
  have := beFold_lt l 0 0 (by simp)
  rw [Nat.zero_add] at this
  exact this
def fGetBad (s : List UInt8) (a : Int) (k : Nat) : Bool := lbLt a 0 || lbLt (liLen s) a || lbLt (liLen s - a) k
def fGet (s : List UInt8) (a : Int) (k : Nat) : Int × Bool := if fGetBad s a k then (0, false) else ((beNat ((s.drop a.toNat).take k) : Nat), true)
theorem take_getD (s : List UInt8) (a : Nat) : ∀ k, a + k ≤ s.length → (s.drop a).take k = (List.range k).map fun i => s.getD (a + i) 0 := by
  intro k h
  apply List.ext_getElem
  · simp; omega
  · intro i h1 h2
    simp at h1 h2
    simp [List.getD_eq_getElem?_getD, show a + i < s.length by omega]
end Go.Adit
namespace Go.Adit
def fGetN (s : List UInt8) (a : Int) (k : Nat) : Int := (fGet s a k).1
def fGetB (s : List UInt8) (a : Int) (k : Nat) : Bool := (fGet s a k).2
end Go.Adit

namespace Go.Adit
def isGetSize : Nat → Bool
  | 1 | 2 | 4 => true
  | _ => false
def c87 : List D → Option (D × List Bool)
  | [.s (.str s), .s (.int .i64 a), .s (.int .i64 (.lit (.ofNat m)))] => match isGetSize m with
    | true => some (.tup [.s (.int .u64 (.sym (fGetN s a.li m))), .s (.bool (.sym (fGetB s a.li m)))], [])
    | false => none
  | _ => none
def e87 : Entry := ⟨87, none, c87, noCallm, noDie⟩
end Go.Adit

namespace Go.Adit
open Go.RowKit Go.Proofs
set_option maxRecDepth 100000
theorem con87_1 (s : List UInt8) (a : Int) : Con Try.prog 87 [.s (.str s), .s (.int .i64 (.sym a)), .s (.int .i64 (.lit 1))] (.tup [.s (.int .u64 (.sym (fGet s a 1).1)), .s (.bool (.sym (fGet s a 1).2))]) :=
  con_given Try.func87 (by kernel_rfl) (by kernel_rfl) fun w vs hv =>
  con_flat tryBase (es := []) (fun _ h => nomatch h) Try.func87 (by kernel_rfl) (by kernel_rfl) (by kernel_rfl) (by kernel_rfl) (by kernel_rfl)
  (t := (.ite (lbLt a (liLit 0))
 (.ret (.tup [.s (.int .u64 (.lit 0)), .s (.bool (.lit false))]) [])
 (.ite (lbLt (liLen s) a)
 (.ret (.tup [.s (.int .u64 (.lit 0)), .s (.bool (.lit false))]) [])
 (.ite (lbLt (liSub .i64 (liLen s) a) (liLit 1))
 (.ret (.tup [.s (.int .u64 (.lit 0)), .s (.bool (.lit false))]) [])
 (.req [(lbLe (liLit 0) (liAdd .i64 a (liLit 0))), (lbLt (liAdd .i64 a (liLit 0)) (liLen s))]
 (.ret (.tup [.s (.int .u64 (.sym (liOr .u64 (liLit 0) (liConv .u64 (liOfByte (lsAt s (liAdd .i64 a (liLit 0)))))))), .s (.bool (.lit true))]) [])))))) (by kernel_rfl) (by
  match vs, hv with
  | [_, _, _], ⟨⟨_, hs⟩, ⟨_, ha⟩, _⟩ =>
    simp only [imax] at hs
    have bad : fGetBad s a 1 = true → (D.tup [.s (.int .u64 (.lit 0)), .s (.bool (.lit false))]).norm = (D.tup [.s (.int .u64 (.sym (fGet s a 1).1)), .s (.bool (.sym (fGet s a 1).2))]).norm := by
      intro h
      simp only [fGet, if_pos h]
      rfl
    simp only [Tr.holds, lbLt_t, lbLt_f, liLit_eq, liLen_eq]
    refine ⟨fun h => bad (by simp only [fGetBad, Bool.or_eq_true, lbLt_t, liLen_eq]; omega), fun h1 => ⟨fun h => bad (by simp only [fGetBad, Bool.or_eq_true, lbLt_t, liLen_eq]; omega), fun h2 => ?_⟩⟩
    have e0 : liSub .i64 (s.length : Int) a = s.length - a := sub64 (by omega) (by omega)
    rw [e0]
    refine ⟨fun h => bad (by simp only [fGetBad, Bool.or_eq_true, lbLt_t, liLen_eq]; omega), fun h3 => ?_⟩
    have hb : ¬ fGetBad s a 1 = true := by simp only [fGetBad, Bool.or_eq_true, lbLt_t, liLen_eq]; omega
    obtain ⟨n, rfl⟩ := Int.eq_ofNat_of_zero_le h1
    have hreq : ∀ i : Int, 0 ≤ i → i < 1 → ∀ b ∈ [lbLe 0 (liAdd .i64 (n : Int) i), lbLt (liAdd .i64 (n : Int) i) (s.length : Int)], b = true := by
      intro i h4 h5 b hb'
      rw [add64 (by omega) (by omega)] at hb'
      simp only [List.mem_cons, List.not_mem_nil, or_false] at hb'
      rcases hb' with rfl | rfl
      · rw [lbLe_t]; omega
      · rw [lbLt_t]; omega
    have hat : ∀ i : Nat, i < 1 → lsAt s (liAdd .i64 (n : Int) (i : Int)) = s.getD (n + i) 0 := by
      intro i hi
      rw [add64 (by omega) (by omega)]
      rfl
    have a0 : lsAt s (liAdd .i64 (n : Int) (liLit 0)) = s.getD (n + 0) 0 := hat 0 (by omega)
    refine ⟨hreq 0 (by omega) (by omega), ?_⟩
    have hv : (fGet s (n : Int) 1).1 = ((beNat ((List.range 1).map fun i => s.getD (n + i) 0) : Nat) : Int) ∧ (fGet s (n : Int) 1).2 = true := by
      simp only [fGet, if_neg hb]
      rw [show (n : Int).toNat = n from rfl, take_getD s n 1 (by omega)]
      exact ⟨rfl, trivial⟩
    rw [hv.1, hv.2]
    simp only [liLit] at a0
    rw [a0]
    have c1 := or_first (s.getD (n + 0) 0)
    simp only [liLit] at c1
    rw [c1]
    simp only [beNat, List.range, List.range.loop, List.map_cons, List.map_nil, List.foldl_cons, List.foldl_nil, Nat.zero_mul, Nat.zero_add]
    rfl)

theorem con87_2 (s : List UInt8) (a : Int) : Con Try.prog 87 [.s (.str s), .s (.int .i64 (.sym a)), .s (.int .i64 (.lit 2))] (.tup [.s (.int .u64 (.sym (fGet s a 2).1)), .s (.bool (.sym (fGet s a 2).2))]) :=
  con_given Try.func87 (by kernel_rfl) (by kernel_rfl) fun w vs hv =>
  con_flat tryBase (es := []) (fun _ h => nomatch h) Try.func87 (by kernel_rfl) (by kernel_rfl) (by kernel_rfl) (by kernel_rfl) (by kernel_rfl)
  (t := (.ite (lbLt a (liLit 0))
 (.ret (.tup [.s (.int .u64 (.lit 0)), .s (.bool (.lit false))]) [])
 (.ite (lbLt (liLen s) a)
 (.ret (.tup [.s (.int .u64 (.lit 0)), .s (.bool (.lit false))]) [])
 (.ite (lbLt (liSub .i64 (liLen s) a) (liLit 2))
 (.ret (.tup [.s (.int .u64 (.lit 0)), .s (.bool (.lit false))]) [])
 (.req [(lbLe (liLit 0) (liAdd .i64 a (liLit 0))), (lbLt (liAdd .i64 a (liLit 0)) (liLen s))]
 (.req [(lbLe (liLit 0) (liAdd .i64 a (liLit 1))), (lbLt (liAdd .i64 a (liLit 1)) (liLen s))]
 (.ret (.tup [.s (.int .u64 (.sym (liOr .u64 (liShl .u64 (liOr .u64 (liLit 0) (liConv .u64 (liOfByte (lsAt s (liAdd .i64 a (liLit 0)))))) (liLit 8)) (liConv .u64 (liOfByte (lsAt s (liAdd .i64 a (liLit 1)))))))), .s (.bool (.lit true))]) []))))))) (by kernel_rfl) (by
  match vs, hv with
  | [_, _, _], ⟨⟨_, hs⟩, ⟨_, ha⟩, _⟩ =>
    simp only [imax] at hs
    have bad : fGetBad s a 2 = true → (D.tup [.s (.int .u64 (.lit 0)), .s (.bool (.lit false))]).norm = (D.tup [.s (.int .u64 (.sym (fGet s a 2).1)), .s (.bool (.sym (fGet s a 2).2))]).norm := by
      intro h
      simp only [fGet, if_pos h]
      rfl
    simp only [Tr.holds, lbLt_t, lbLt_f, liLit_eq, liLen_eq]
    refine ⟨fun h => bad (by simp only [fGetBad, Bool.or_eq_true, lbLt_t, liLen_eq]; omega), fun h1 => ⟨fun h => bad (by simp only [fGetBad, Bool.or_eq_true, lbLt_t, liLen_eq]; omega), fun h2 => ?_⟩⟩
    have e0 : liSub .i64 (s.length : Int) a = s.length - a := sub64 (by omega) (by omega)
    rw [e0]
    refine ⟨fun h => bad (by simp only [fGetBad, Bool.or_eq_true, lbLt_t, liLen_eq]; omega), fun h3 => ?_⟩
    have hb : ¬ fGetBad s a 2 = true := by simp only [fGetBad, Bool.or_eq_true, lbLt_t, liLen_eq]; omega
    obtain ⟨n, rfl⟩ := Int.eq_ofNat_of_zero_le h1
    have hreq : ∀ i : Int, 0 ≤ i → i < 2 → ∀ b ∈ [lbLe 0 (liAdd .i64 (n : Int) i), lbLt (liAdd .i64 (n : Int) i) (s.length : Int)], b = true := by
      intro i h4 h5 b hb'
      rw [add64 (by omega) (by omega)] at hb'
      simp only [List.mem_cons, List.not_mem_nil, or_false] at hb'
      rcases hb' with rfl | rfl
      · rw [lbLe_t]; omega
      · rw [lbLt_t]; omega
    have hat : ∀ i : Nat, i < 2 → lsAt s (liAdd .i64 (n : Int) (i : Int)) = s.getD (n + i) 0 := by
      intro i hi
      rw [add64 (by omega) (by omega)]
      rfl
    have a0 : lsAt s (liAdd .i64 (n : Int) (liLit 0)) = s.getD (n + 0) 0 := hat 0 (by omega)
    have a1 : lsAt s (liAdd .i64 (n : Int) (liLit 1)) = s.getD (n + 1) 0 := hat 1 (by omega)
    refine ⟨hreq 0 (by omega) (by omega), ⟨hreq 1 (by omega) (by omega), ?_⟩⟩
    have hv : (fGet s (n : Int) 2).1 = ((beNat ((List.range 2).map fun i => s.getD (n + i) 0) : Nat) : Int) ∧ (fGet s (n : Int) 2).2 = true := by
      simp only [fGet, if_neg hb]
      rw [show (n : Int).toNat = n from rfl, take_getD s n 2 (by omega)]
      exact ⟨rfl, trivial⟩
    rw [hv.1, hv.2]
    simp only [liLit] at a0 a1
    rw [a0, a1]
    have c1 := or_first (s.getD (n + 0) 0)
    simp only [liLit] at c1
    rw [c1]
    have c2 := or_next ((s.getD (n + 0) 0).toNat) (by have := (s.getD (n + 0) 0).toNat_lt;  omega) (s.getD (n + 1) 0)
    simp only [liLit] at c2
    rw [c2]
    simp only [beNat, List.range, List.range.loop, List.map_cons, List.map_nil, List.foldl_cons, List.foldl_nil, Nat.zero_mul, Nat.zero_add]
    rfl)

theorem con87_4 (s : List UInt8) (a : Int) : Con Try.prog 87 [.s (.str s), .s (.int .i64 (.sym a)), .s (.int .i64 (.lit 4))] (.tup [.s (.int .u64 (.sym (fGet s a 4).1)), .s (.bool (.sym (fGet s a 4).2))]) :=
  con_given Try.func87 (by kernel_rfl) (by kernel_rfl) fun w vs hv =>
  con_flat tryBase (es := []) (fun _ h => nomatch h) Try.func87 (by kernel_rfl) (by kernel_rfl) (by kernel_rfl) (by kernel_rfl) (by kernel_rfl)
  (t := (.ite (lbLt a (liLit 0))
 (.ret (.tup [.s (.int .u64 (.lit 0)), .s (.bool (.lit false))]) [])
 (.ite (lbLt (liLen s) a)
 (.ret (.tup [.s (.int .u64 (.lit 0)), .s (.bool (.lit false))]) [])
 (.ite (lbLt (liSub .i64 (liLen s) a) (liLit 4))
 (.ret (.tup [.s (.int .u64 (.lit 0)), .s (.bool (.lit false))]) [])
 (.req [(lbLe (liLit 0) (liAdd .i64 a (liLit 0))), (lbLt (liAdd .i64 a (liLit 0)) (liLen s))]
 (.req [(lbLe (liLit 0) (liAdd .i64 a (liLit 1))), (lbLt (liAdd .i64 a (liLit 1)) (liLen s))]
 (.req [(lbLe (liLit 0) (liAdd .i64 a (liLit 2))), (lbLt (liAdd .i64 a (liLit 2)) (liLen s))]
 (.req [(lbLe (liLit 0) (liAdd .i64 a (liLit 3))), (lbLt (liAdd .i64 a (liLit 3)) (liLen s))]
 (.ret (.tup [.s (.int .u64 (.sym (liOr .u64 (liShl .u64 (liOr .u64 (liShl .u64 (liOr .u64 (liShl .u64 (liOr .u64 (liLit 0) (liConv .u64 (liOfByte (lsAt s (liAdd .i64 a (liLit 0)))))) (liLit 8)) (liConv .u64 (liOfByte (lsAt s (liAdd .i64 a (liLit 1)))))) (liLit 8)) (liConv .u64 (liOfByte (lsAt s (liAdd .i64 a (liLit 2)))))) (liLit 8)) (liConv .u64 (liOfByte (lsAt s (liAdd .i64 a (liLit 3)))))))), .s (.bool (.lit true))]) []))))))))) (by kernel_rfl) (by
  match vs, hv with
  | [_, _, _], ⟨⟨_, hs⟩, ⟨_, ha⟩, _⟩ =>
    simp only [imax] at hs
    have bad : fGetBad s a 4 = true → (D.tup [.s (.int .u64 (.lit 0)), .s (.bool (.lit false))]).norm = (D.tup [.s (.int .u64 (.sym (fGet s a 4).1)), .s (.bool (.sym (fGet s a 4).2))]).norm := by
      intro h
      simp only [fGet, if_pos h]
      rfl
    simp only [Tr.holds, lbLt_t, lbLt_f, liLit_eq, liLen_eq]
    refine ⟨fun h => bad (by simp only [fGetBad, Bool.or_eq_true, lbLt_t, liLen_eq]; omega), fun h1 => ⟨fun h => bad (by simp only [fGetBad, Bool.or_eq_true, lbLt_t, liLen_eq]; omega), fun h2 => ?_⟩⟩
    have e0 : liSub .i64 (s.length : Int) a = s.length - a := sub64 (by omega) (by omega)
    rw [e0]
    refine ⟨fun h => bad (by simp only [fGetBad, Bool.or_eq_true, lbLt_t, liLen_eq]; omega), fun h3 => ?_⟩
    have hb : ¬ fGetBad s a 4 = true := by simp only [fGetBad, Bool.or_eq_true, lbLt_t, liLen_eq]; omega
    obtain ⟨n, rfl⟩ := Int.eq_ofNat_of_zero_le h1
    have hreq : ∀ i : Int, 0 ≤ i → i < 4 → ∀ b ∈ [lbLe 0 (liAdd .i64 (n : Int) i), lbLt (liAdd .i64 (n : Int) i) (s.length : Int)], b = true := by
      intro i h4 h5 b hb'
      rw [add64 (by omega) (by omega)] at hb'
      simp only [List.mem_cons, List.not_mem_nil, or_false] at hb'
      rcases hb' with rfl | rfl
      · rw [lbLe_t]; omega
      · rw [lbLt_t]; omega
    have hat : ∀ i : Nat, i < 4 → lsAt s (liAdd .i64 (n : Int) (i : Int)) = s.getD (n + i) 0 := by
      intro i hi
      rw [add64 (by omega) (by omega)]
      rfl
    have a0 : lsAt s (liAdd .i64 (n : Int) (liLit 0)) = s.getD (n + 0) 0 := hat 0 (by omega)
    have a1 : lsAt s (liAdd .i64 (n : Int) (liLit 1)) = s.getD (n + 1) 0 := hat 1 (by omega)
    have a2 : lsAt s (liAdd .i64 (n : Int) (liLit 2)) = s.getD (n + 2) 0 := hat 2 (by omega)
    have a3 : lsAt s (liAdd .i64 (n : Int) (liLit 3)) = s.getD (n + 3) 0 := hat 3 (by omega)
    refine ⟨hreq 0 (by omega) (by omega), ⟨hreq 1 (by omega) (by omega), ⟨hreq 2 (by omega) (by omega), ⟨hreq 3 (by omega) (by omega), ?_⟩⟩⟩⟩
    have hv : (fGet s (n : Int) 4).1 = ((beNat ((List.range 4).map fun i => s.getD (n + i) 0) : Nat) : Int) ∧ (fGet s (n : Int) 4).2 = true := by
      simp only [fGet, if_neg hb]
      rw [show (n : Int).toNat = n from rfl, take_getD s n 4 (by omega)]
      exact ⟨rfl, trivial⟩
    rw [hv.1, hv.2]
    simp only [liLit] at a0 a1 a2 a3
    rw [a0, a1, a2, a3]
    have c1 := or_first (s.getD (n + 0) 0)
    simp only [liLit] at c1
    rw [c1]
    have c2 := or_next ((s.getD (n + 0) 0).toNat) (by have := (s.getD (n + 0) 0).toNat_lt;  omega) (s.getD (n + 1) 0)
    simp only [liLit] at c2
    rw [c2]
    have c3 := or_next ((((s.getD (n + 0) 0).toNat) * 256 + (s.getD (n + 1) 0).toNat)) (by have := (s.getD (n + 0) 0).toNat_lt; have := (s.getD (n + 1) 0).toNat_lt; omega) (s.getD (n + 2) 0)
    simp only [liLit] at c3
    rw [c3]
    have c4 := or_next ((((((s.getD (n + 0) 0).toNat) * 256 + (s.getD (n + 1) 0).toNat)) * 256 + (s.getD (n + 2) 0).toNat)) (by have := (s.getD (n + 0) 0).toNat_lt; have := (s.getD (n + 1) 0).toNat_lt; have := (s.getD (n + 2) 0).toNat_lt; omega) (s.getD (n + 3) 0)
    simp only [liLit] at c4
    rw [c4]
    simp only [beNat, List.range, List.range.loop, List.map_cons, List.map_nil, List.foldl_cons, List.foldl_nil, Nat.zero_mul, Nat.zero_add]
    rfl)

def k87 : List Nat := [1, 2, 4]
end Go.Adit

namespace Go.Adit
open Go.RowKit Go.Proofs
theorem ok87 : EntryOK Try.prog e87 := by
  refine EntryOK.pure fun args r req hc hq => ?_
  unfold c87 at hc
  split at hc
  · rename_i s a m
    split at hc
    · rename_i hm
      simp only [Option.some.injEq, Prod.mk.injEq] at hc
      obtain ⟨rfl, rfl⟩ := hc
      have key : ∀ m : Nat, isGetSize m = true → Con Try.prog 87 [.s (.str s), .s (.int .i64 (.sym a.li)), .s (.int .i64 (.lit (.ofNat m)))] (.tup [.s (.int .u64 (.sym (fGetN s a.li m))), .s (.bool (.sym (fGetB s a.li m)))]) := by
        intro m hm
        unfold isGetSize at hm
        split at hm
        · exact con87_1 s a.li
        · exact con87_2 s a.li
        · exact con87_4 s a.li
        · cases hm
      exact Con.args (key m hm) fun w vs hv => (match vs, hv with
        | [_, _, _], ⟨h0, h1, h2, _⟩ => ⟨h0, h1, h2, trivial⟩)
    · cases hc
  · cases hc
end Go.Adit
