/- Part of the proofs of the laws: lemmas and contracts, no statement of its own. -/
import Derived.Test.YtledohjnchnmhaaB6g
import Derived.Test.YtledohjnchnmhaaLaw4
import Derived.Test.YtledohjnchnmhaaLawIpTurned
import Derived.Test.YtledohjnchnmhaaParseH
set_option linter.unusedVariables false
set_option linter.unusedSimpArgs false
namespace Go.Adit
open Go.RowKit Go.Proofs
set_option maxRecDepth 100000
theorem wi64n {n : Nat} (h : n < 2 ^ 63) : IntKind.i64.wrap (n : Int) = (n : Int) := wi64 (by omega) (by omega)
theorem and_nat {a b : Nat} (ha : a < 2 ^ 63) (hb : b < 2 ^ 63) : liAnd .i64 (a : Int) (b : Int) = ((a &&& b : Nat) : Int) := by
  have e : liAnd .i64 (a : Int) (b : Int) = IntKind.i64.wrap ((BitVec.ofInt 64 (a : Int) &&& BitVec.ofInt 64 (b : Int)).toNat : Int) := rfl
  have h2 : (BitVec.ofInt 64 (a : Int) &&& BitVec.ofInt 64 (b : Int)).toNat = a &&& b := by
    rw [BitVec.toNat_and, BitVec.ofInt_natCast, BitVec.ofInt_natCast, BitVec.toNat_ofNat, BitVec.toNat_ofNat, Nat.mod_eq_of_lt (by omega), Nat.mod_eq_of_lt (by omega)]
  rw [e, h2]
  exact wi64n (Nat.and_lt_two_pow a hb)
theorem or_nat {a b : Nat} (ha : a < 2 ^ 63) (hb : b < 2 ^ 63) : liOr .i64 (a : Int) (b : Int) = ((a ||| b : Nat) : Int) := by
  have e : liOr .i64 (a : Int) (b : Int) = IntKind.i64.wrap ((BitVec.ofInt 64 (a : Int) ||| BitVec.ofInt 64 (b : Int)).toNat : Int) := rfl
  have h2 : (BitVec.ofInt 64 (a : Int) ||| BitVec.ofInt 64 (b : Int)).toNat = a ||| b := by
    rw [BitVec.toNat_or, BitVec.ofInt_natCast, BitVec.ofInt_natCast, BitVec.toNat_ofNat, BitVec.toNat_ofNat, Nat.mod_eq_of_lt (by omega), Nat.mod_eq_of_lt (by omega)]
  rw [e, h2]
  exact wi64n (Nat.or_lt_two_pow ha hb)
/-- two numbers of which one lies above the other's bits -/
theorem or_add {a b k : Nat} (hb : b < 2 ^ k) : 2 ^ k * a ||| b = 2 ^ k * a + b := (Nat.two_pow_add_eq_or_of_lt hb a).symm
theorem and_mask63 (a k : Nat) : a &&& (2 ^ k - 1) = a % 2 ^ k := Nat.and_two_pow_sub_one_eq_mod a k
theorem and_bit (a k : Nat) : a &&& 2 ^ k = 2 ^ k * (a / 2 ^ k % 2) := by
  have ht : a.testBit k = decide (a / 2 ^ k % 2 = 1) := Nat.testBit_eq_decide_div_mod_eq
  rcases Nat.mod_two_eq_zero_or_one (a / 2 ^ k) with h | h
  · rw [h, Nat.mul_zero]
    apply Nat.eq_of_testBit_eq; intro i
    rw [Nat.testBit_and, Nat.testBit_two_pow, Nat.zero_testBit]
    by_cases e : k = i
    · subst e; rw [ht, h]; rfl
    · simp [e]
  · rw [h, Nat.mul_one]
    apply Nat.eq_of_testBit_eq; intro i
    rw [Nat.testBit_and, Nat.testBit_two_pow]
    by_cases e : k = i
    · subst e; rw [ht, h]; simp
    · simp [e]
theorem and_six (a : Nat) : a &&& 6 = 2 * (a / 2 % 4) := by
  have h8 : a % 8 < 8 := Nat.mod_lt _ (by omega)
  have e : a &&& 6 = (a % 8) &&& 6 := by
    rw [show a % 8 = a &&& 7 from (and_mask63 a 3).symm, Nat.and_assoc]; rfl
  rw [e]
  have : ∀ m : Fin 8, m.val &&& 6 = 2 * (m.val / 2 % 4) := by decide
  rw [this ⟨a % 8, h8⟩]
  show 2 * (a % 8 / 2 % 4) = _
  omega
theorem and_not7 (a : Nat) (h : a < 2 ^ 64) : a &&& (2 ^ 64 - (7 + 1)) = a - a % 8 := by
  have e : a - a % 8 = 2 ^ 3 * (a / 2 ^ 3) := by omega
  rw [e]
  apply Nat.eq_of_testBit_eq; intro i
  rw [Nat.testBit_and, Nat.testBit_two_pow_sub_succ (by omega), Nat.testBit_two_pow_mul, Nat.testBit_div_two_pow]
  by_cases hi : 3 ≤ i
  · have h7 : (7 : Nat).testBit i = false := by
      rw [Nat.testBit_eq_decide_div_mod_eq]
      have : 2 ^ 3 ≤ 2 ^ i := Nat.pow_le_pow_right (by omega) hi
      rw [Nat.div_eq_of_lt (by omega)]; rfl
    rw [h7, show i - 3 + 3 = i by omega]
    by_cases h64 : i < 64
    · simp [hi, h64]
    · have : a.testBit i = false := Nat.testBit_lt_two_pow (Nat.lt_of_lt_of_le h (Nat.pow_le_pow_right (by omega) (by omega)))
      simp [this]
  · have : (7 : Nat).testBit i = true := by
      have : i = 0 ∨ i = 1 ∨ i = 2 := by omega
      rcases this with rfl | rfl | rfl <;> decide
    simp [this, hi]
theorem andnot7 (a : Nat) (h : a < 2 ^ 63) : liAndNot .i64 (a : Int) (liLit 7) = ((a - a % 8 : Nat) : Int) := by
  have e : liAndNot .i64 (a : Int) (liLit 7) = IntKind.i64.wrap ((BitVec.ofInt 64 (a : Int) &&& ~~~BitVec.ofInt 64 (7 : Int)).toNat : Int) := rfl
  have h2 : (BitVec.ofInt 64 (a : Int) &&& ~~~BitVec.ofInt 64 (7 : Int)).toNat = a - a % 8 := by
    rw [BitVec.toNat_and, BitVec.ofInt_natCast, BitVec.toNat_ofNat, Nat.mod_eq_of_lt (show a < 2 ^ 64 by omega)]
    exact and_not7 a (by omega)
  rw [e, h2]
  exact wi64n (by omega)
theorem shr_nat {a k : Nat} (hk : k ≤ 64) : liShr .i64 (a : Int) (liLit (k : Int)) = ((a / 2 ^ k : Nat) : Int) := by
  show Int.fdiv (a : Int) (2 ^ (min ((k : Nat) : Int).toNat 64)) = _
  rw [show min ((k : Nat) : Int).toNat 64 = k by omega, show ((2 : Int) ^ k) = ((2 ^ k : Nat) : Int) by push_cast; rfl, Int.fdiv_eq_ediv_of_nonneg _ (Int.natCast_nonneg _)]
  rfl
theorem quo_nat (a b : Nat) (ha : a < 2 ^ 63) : liQuo .i64 (a : Int) (b : Int) = ((a / b : Nat) : Int) := by
  show IntKind.i64.wrap (Int.tdiv _ _) = _
  rw [Int.tdiv_eq_ediv_of_nonneg (by omega), ← Int.natCast_ediv]
  exact wi64n (Nat.lt_of_le_of_lt (Nat.div_le_self _ _) ha)
theorem mul_nat (a b : Nat) (h : a * b < 2 ^ 63) : liMul .i64 (a : Int) (b : Int) = ((a * b : Nat) : Int) := by
  show IntKind.i64.wrap ((a : Int) * (b : Int)) = _
  rw [← Int.natCast_mul]; exact wi64n h
theorem add_nat (a b : Nat) (h : a + b < 2 ^ 63) : liAdd .i64 (a : Int) (b : Int) = ((a + b : Nat) : Int) := by
  rw [add64 (by omega) (by omega)]; omega
theorem byteOf_nat (n i : Nat) (hi : i ≤ 7) : byteOf (n : Int) i = UInt8.ofNat (n / 2 ^ (8 * i) % 256) := by
  apply UInt8.toNat_inj.1
  rw [byteOf_toNat n i hi, UInt8.toNat_ofNat']
  omega
/-- a number's last k bytes -/
theorem be_put (n : Nat) : ∀ k, k ≤ 8 → ∀ m, (fPut (n : Int) k).foldl (fun s y => s * 256 + y.toNat) m = m * 256 ^ k + n % 256 ^ k
  | 0, _, m => by simp [fPut, Nat.mod_one]
  | k + 1, h, m => by
    simp only [fPut, List.foldl_cons]
    rw [be_put n k (by omega), byteOf_toNat n k (by omega)]
    have e : 2 ^ (8 * k) = 256 ^ k := by rw [Nat.pow_mul]
    rw [e]
    have e2 : n % 256 ^ (k + 1) = n % 256 ^ k + 256 ^ k * (n / 256 ^ k % 256) := by rw [Nat.pow_succ, Nat.mod_mul]
    rw [e2, Nat.pow_succ]
    have e3 : (m * 256 + n / 256 ^ k % 256) * 256 ^ k = m * (256 ^ k * 256) + 256 ^ k * (n / 256 ^ k % 256) := by
      rw [Nat.add_mul, Nat.mul_assoc, Nat.mul_comm 256 (256 ^ k), Nat.mul_comm (n / 256 ^ k % 256)]
    omega
theorem num_put (pre post : List UInt8) (n k : Nat) (hk : k ≤ 4) (hn : n < 256 ^ k) : num (pre ++ (fPut (n : Int) k ++ post)) pre.length k = n := by
  unfold num
  rw [List.drop_left, List.take_left' (by rw [fPut_len])]
  show (fPut (n : Int) k).foldl (fun s y => s * 256 + y.toNat) 0 = n
  rw [be_put n k (by omega) 0, Nat.mod_eq_of_lt hn]; omega
theorem fNum_put {b pre post : List UInt8} {n k a : Nat} (hb : b = pre ++ (fPut (n : Int) k ++ post)) (ha : a = pre.length) (hk : k ≤ 4) (hn : n < 256 ^ k) : fNum b (a : Int) k = (n : Int) := by
  subst hb ha
  rw [fNum_eq _ _ _ (by simp only [List.length_append, fPut_len]; omega) hk, num_put pre post n k hk hn]
theorem fTake_mid {b pre y post : List UInt8} {a : Int} {n : Int} (hb : b = pre ++ (y ++ post)) (ha : a = (pre.length : Int)) (hn : n = (y.length : Int)) : fTake b a n = y := by
  subst hb ha hn
  rw [fTake_eq _ _ _ (by simp only [List.length_append]; omega), List.drop_left, List.take_left]
theorem fBytes_len4 {a : Addr} (h : fValid a = true) (h4 : a.v6 = false) : (fBytes a).length = 4 := by rw [four_bytes h h4]; rfl
theorem fBytes_len16 {a : Addr} (h : a.v6 = true) : (fBytes a).length = 16 := by unfold fBytes; rw [h]; rfl
theorem fFrom_bytes {a : Addr} (h : fValid a = true) : (fFrom (fBytes a)).1 = a := by
  obtain ⟨v6, b0, b1, b2, b3, b4, b5, b6, b7, b8, b9, b10, b11, b12, b13, b14, b15⟩ := a
  cases v6 with
  | true => rfl
  | false =>
    rw [four_bytes h rfl]
    unfold fValid at h
    simp only [Bool.false_or, Bool.and_eq_true, beq_iff_eq] at h
    obtain ⟨⟨⟨⟨⟨⟨⟨⟨⟨⟨⟨h4, h5⟩, h6⟩, h7⟩, h8⟩, h9⟩, h10⟩, h11⟩, h12⟩, h13⟩, h14⟩, h15⟩ := h
    subst h4 h5 h6 h7 h8 h9 h10 h11 h12 h13 h14 h15
    rfl
theorem fAddrAt_mid {b pre post : List UInt8} {a : Addr} {i : Int} {k : Nat} (hb : b = pre ++ (fBytes a ++ post)) (hi : i = (pre.length : Int)) (hk : (fBytes a).length = k) (h : fValid a = true) : fAddrAt b i k = a := by
  unfold fAddrAt
  rw [fTake_mid hb hi (by rw [hk]; rfl), fFrom_bytes h]



end Go.Adit

namespace Go.Adit
open Go.RowKit Go.Proofs
set_option maxRecDepth 100000
set_option maxHeartbeats 2000000
structure Six (p : Packet) : Prop where
  src : fValid p.src = true
  dst : fValid p.dst = true
  s6 : p.src.v6 = true
  d6 : p.dst.v6 = true
  proto : 0 ≤ p.proto ∧ p.proto ≤ 255
  hop : 0 ≤ p.hop ∧ p.hop ≤ 255
  cls : 0 ≤ p.cls ∧ p.cls ≤ 255
  off : 0 ≤ p.off ∧ p.off ≤ 65528
  off8 : p.off % 8 = 0
  id : 0 ≤ p.id ∧ p.id ≤ 4294967295
  flow : 0 ≤ p.flow ∧ p.flow ≤ 1048575
  opts : p.opts = []
  still : p.still = false
  few : p.exts.length ≤ 4
  exts : fExts 0 p.exts = true
  spec : fSpecial p.proto = false
  whole : p.cut = true ∨ (p.id = 0 ∧ p.off = 0 ∧ p.more = false)
theorem six_of {p : Packet} (h : fRight p = true) (hv : p.src.v6 = true) : Six p := by
  unfold fRight at h
  rw [Bool.and_eq_true, hv] at h
  obtain ⟨h0, h4⟩ := h
  simp only [if_true] at h4
  unfold fR0 at h0
  unfold fR6 at h4
  simp only [Bool.and_eq_true] at h0 h4
  obtain ⟨⟨⟨⟨⟨⟨⟨a1, a2⟩, a3⟩, a4⟩, a5⟩, a6⟩, a7⟩, a8⟩ := h0
  obtain ⟨b0, ⟨⟨⟨⟨⟨⟨b1, b2⟩, b3⟩, b4⟩, b5⟩, b6⟩, b7⟩⟩ := h4
  have a7' := fUpto_t a7
  refine ⟨a1, a2, hv, ?_, fUpto_t a4, fUpto_t a5, fUpto_t a6, a7', ?_, fUpto_t b5, fUpto_t b1, ?_, ?_, ?_, b0, ?_, ?_⟩
  · rw [hv] at a3; unfold lbEqB at a3; simpa using a3
  · rw [lbEqI_t] at a8
    unfold liRem at a8
    rw [Int.tmod_eq_emod_of_nonneg a7'.1] at a8
    exact a8
  · rw [lbEqS_t] at b2; exact b2
  · rw [lbNot_t] at b3; exact b3
  · rw [lbLe_t] at b4
    have : ((p.exts.length : Int)) ≤ 4 := b4
    omega
  · rw [lbNot_t] at b6; exact b6
  · rw [Bool.or_eq_true] at b7
    rcases b7 with b7 | b7
    · exact .inl b7
    · simp only [Bool.and_eq_true] at b7
      obtain ⟨⟨c1, c2⟩, c3⟩ := b7
      rw [lbEqI_t] at c1 c2; rw [lbNot_t] at c3
      exact .inr ⟨c1, c2, c3⟩
def chain (p : Packet) : List Ext → Int × List UInt8
  | [] => (kind0 p, rest0 p)
  | x :: t => step6 (chain p t) x
theorem chain_eq (p : Packet) (l : List Ext) : (l.reverse).foldl step6 (kind0 p, rest0 p) = chain p l := by
  rw [List.foldl_reverse]
  induction l with
  | nil => rfl
  | cons x t ih => simp only [List.foldr_cons, chain, ih]
structure XOk (x : Ext) (i : Nat) : Prop where
  kind : (x.kind = 0 ∧ i = 0) ∨ x.kind = 43 ∨ x.kind = 60
  mod : x.body.length % 8 = 6
  le : x.body.length ≤ 2046
theorem fExt_ok {x : Ext} {i : Nat} (h : fExt x i = true) : XOk x i := by
  unfold fExt at h
  simp only [Bool.and_eq_true, Bool.or_eq_true, beq_iff_eq] at h
  obtain ⟨⟨h1, h2⟩, h3⟩ := h
  refine ⟨?_, ?_, ?_⟩
  · rcases h1 with (⟨h, h'⟩ | h) | h
    · exact .inl ⟨h, by omega⟩
    · exact .inr (.inl h)
    · exact .inr (.inr h)
  · rw [lbEqI_t] at h2
    unfold liRem at h2
    rw [Int.tmod_eq_emod_of_nonneg (by simp [liLen])] at h2
    have : ((x.body.length : Int)) % 8 = 6 := h2
    omega
  · rw [lbLe_t] at h3
    have : ((x.body.length : Int)) ≤ 2046 := h3
    omega
theorem fExt_of {x : Ext} {i : Nat} (h : XOk x i) : fExt x i = true := by
  unfold fExt
  simp only [Bool.and_eq_true, Bool.or_eq_true, beq_iff_eq]
  refine ⟨⟨?_, ?_⟩, ?_⟩
  · rcases h.kind with ⟨h, h'⟩ | h | h
    · exact .inl (.inl ⟨h, by omega⟩)
    · exact .inl (.inr h)
    · exact .inr h
  · rw [lbEqI_t]
    unfold liRem
    rw [Int.tmod_eq_emod_of_nonneg (by simp [liLen])]
    have := h.mod
    show ((x.body.length : Int)) % 8 = 6
    omega
  · rw [lbLe_t]
    have := h.le
    show ((x.body.length : Int)) ≤ 2046
    omega
theorem spec_f {n : Int} (h : fSpecial n = false) : n ≠ 0 ∧ n ≠ 43 ∧ n ≠ 44 ∧ n ≠ 60 := by
  unfold fSpecial at h
  simp only [Bool.or_eq_false_iff, beq_eq_false_iff_ne] at h
  exact ⟨h.1.1.1, h.1.1.2, h.1.2, h.2⟩
theorem chain_kind {p : Packet} (h : Six p) {i : Nat} {l : List Ext} (hl : fExts i l = true) : ∃ m : Nat, (chain p l).1 = (m : Int) ∧ m < 256 := by
  cases l with
  | nil =>
    show ∃ m : Nat, kind0 p = (m : Int) ∧ m < 256
    unfold kind0
    have := h.proto
    split
    · exact ⟨44, rfl, by omega⟩
    · exact ⟨p.proto.toNat, by omega, by omega⟩
  | cons x t =>
    unfold fExts at hl
    rw [Bool.and_eq_true] at hl
    have hk := (fExt_ok hl.1).kind
    refine ⟨x.kind.toNat, ?_, by omega⟩
    show x.kind = _
    omega
theorem ext1_eq {m : Nat} (hm : m < 256) {i : Nat} {x : Ext} (hx : XOk x i) : ext1 (m : Int) x = fPut (m : Int) 1 ++ (fPut ((x.body.length / 8 : Nat) : Int) 1 ++ x.body) := by
  unfold ext1
  have e : liQuo .i64 (liLen x.body) (liLit 8) = ((x.body.length / 8 : Nat) : Int) := quo_nat x.body.length 8 (by have := hx.le; omega)
  rw [e, conv_u64 (by omega) (by omega), conv_u64 (by omega) (by have := hx.le; omega)]
  simp only [lsCat, List.append_assoc]
theorem ext1_len {m : Nat} (hm : m < 256) {i : Nat} {x : Ext} (hx : XOk x i) : (ext1 (m : Int) x).length = 2 + x.body.length := by
  rw [ext1_eq hm hx]; simp only [List.length_append, fPut_len]; omega
theorem frag_eq {p : Packet} (h : Six p) : ∃ w : Nat, w = p.off.toNat + (if p.more then 1 else 0) ∧ w < 65536 ∧ frag p = fPut ((p.proto.toNat : Nat) : Int) 1 ++ (fPut ((0 : Nat) : Int) 1 ++ (fPut ((w : Nat) : Int) 2 ++ fPut ((p.id.toNat : Nat) : Int) 4)) := by
  have := h.off; have := h.off8; have := h.proto; have := h.id
  refine ⟨_, rfl, by split <;> omega, ?_⟩
  unfold frag
  have e : liOr .i64 p.off (fFlag p.more (liLit 1)) = ((p.off.toNat + (if p.more then 1 else 0) : Nat) : Int) := by
    obtain ⟨n, hn⟩ : ∃ n : Nat, p.off = (n : Int) := ⟨p.off.toNat, by omega⟩
    unfold fFlag
    rw [hn, Int.toNat_natCast]
    have hq : n = 2 ^ 3 * (n / 8) := by omega
    cases p.more with
    | true =>
      show liOr .i64 (n : Int) ((1 : Nat) : Int) = ((n + 1 : Nat) : Int)
      rw [or_nat (by omega) (by omega)]
      have := or_add (a := n / 8) (b := 1) (k := 3) (by omega)
      rw [← hq] at this
      rw [this]
    | false =>
      show liOr .i64 (n : Int) ((0 : Nat) : Int) = ((n + 0 : Nat) : Int)
      rw [or_nat (by omega) (by omega)]; simp
  rw [e, conv_u64 (n := p.proto) (by omega) (by omega), conv_u64 (n := p.id) (by omega) (by omega), conv_u64 (n := liLit 0) (by decide) (by decide), conv_u64 (n := ((p.off.toNat + (if p.more = true then 1 else 0) : Nat) : Int)) (by omega) (by split <;> omega)]
  rw [show p.proto = ((p.proto.toNat : Nat) : Int) by omega, show p.id = ((p.id.toNat : Nat) : Int) by omega]
  simp only [lsCat, List.append_assoc, Int.toNat_natCast]
  rfl
theorem left_nat (x : List UInt8) (n : Nat) : fLeft x (n : Int) = (x.length : Int) - (n : Int) := rfl
theorem fin6 (hd p : Packet) (h : Six p) (x pre : List UInt8) (l : List Ext) (hx : x = pre ++ rest0 p) (n : Nat) :
    r6loop hd x n (kind0 p) l (pre.length : Int) = .good ⟨hd.src, hd.dst, p.proto, hd.hop, hd.cls, p.id, p.off, p.more, false, [], hd.flow, l, p.cut, p.pay⟩ := by
  have sp := spec_f h.spec
  cases hc : p.cut with
  | false =>
    have hw : p.id = 0 ∧ p.off = 0 ∧ p.more = false := by
      rcases h.whole with h | h
      · rw [hc] at h; cases h
      · exact h
    have hk : kind0 p = p.proto := by unfold kind0; rw [hc]; rfl
    have hr : rest0 p = p.pay := by unfold rest0; rw [hc]; rfl
    rw [hk]; rw [hr] at hx
    rw [r6_ne (by
      unfold isExtK
      simp only [Bool.or_eq_false_iff, lbEqI_f]
      exact ⟨⟨sp.1, sp.2.1⟩, sp.2.2.2⟩)]
    unfold r6fin
    rw [if_neg (by rw [lbEqI_t]; exact sp.2.2.1)]
    unfold r6all
    rw [hw.1, hw.2.1, hw.2.2]
    rw [fTake_mid (b := x) (pre := pre) (y := p.pay) (post := []) (by rw [List.append_nil]; exact hx) rfl (by rw [left_nat, hx, List.length_append]; omega)]
  | true =>
    have hk : kind0 p = 44 := by unfold kind0; rw [hc]; rfl
    have hr : rest0 p = frag p ++ p.pay := by unfold rest0; rw [hc]; rfl
    rw [hk]; rw [hr] at hx
    obtain ⟨w, hw, hw2, hf⟩ := frag_eq h
    have hpr := h.proto; have hid := h.id; have hoff := h.off; have h8 := h.off8
    rw [r6_ne (by decide)]
    unfold r6fin
    rw [if_pos (by decide)]
    rw [hf] at hx
    simp only [List.append_assoc] at hx
    have n0 : fNum x (pre.length : Int) 1 = p.proto := by
      rw [fNum_put hx rfl (by omega) (by omega)]; omega
    have n1 : fNum x (fAdv (pre.length : Int) (liLit 1)) 1 = 0 := by
      have := fNum_put (b := x) (pre := pre ++ fPut ((p.proto.toNat : Nat) : Int) 1) (n := 0) (k := 1) (a := pre.length + 1) (by simp only [List.append_assoc]; exact hx) (by rw [List.length_append, fPut_len]) (by omega) (by omega)
      exact this
    have n2 : fNum x (adv2 (pre.length : Int)) 2 = (w : Int) := by
      have := fNum_put (b := x) (pre := pre ++ (fPut ((p.proto.toNat : Nat) : Int) 1 ++ fPut ((0 : Nat) : Int) 1)) (n := w) (k := 2) (a := pre.length + 1 + 1) (by simp only [List.append_assoc]; exact hx) (by simp only [List.length_append, fPut_len]) (by omega) (by omega)
      exact this
    have n4 : fNum x (adv4 (pre.length : Int)) 4 = p.id := by
      have := fNum_put (b := x) (pre := pre ++ (fPut ((p.proto.toNat : Nat) : Int) 1 ++ (fPut ((0 : Nat) : Int) 1 ++ fPut (w : Int) 2))) (n := p.id.toNat) (k := 4) (a := pre.length + 1 + 1 + 2) (by simp only [List.append_assoc]; exact hx) (by simp only [List.length_append, fPut_len]) (by omega) (by omega)
      rw [show p.id = ((p.id.toNat : Nat) : Int) by omega]
      exact this
    have hlen : x.length = pre.length + (1 + (1 + (2 + (4 + p.pay.length)))) := by rw [hx]; simp only [List.length_append, fPut_len]
    have n8 : fTake x (adv8 (pre.length : Int)) (fLeft x (adv8 (pre.length : Int))) = p.pay := by
      refine fTake_mid (b := x) (pre := pre ++ (fPut ((p.proto.toNat : Nat) : Int) 1 ++ (fPut ((0 : Nat) : Int) 1 ++ (fPut (w : Int) 2 ++ fPut ((p.id.toNat : Nat) : Int) 4)))) (y := p.pay) (post := []) (by simp only [List.append_assoc, List.append_nil]; exact hx) ?_ ?_
      · show (pre.length : Int) + 1 + 1 + 2 + 4 = _
        simp only [List.length_append, fPut_len]; omega
      · show (x.length : Int) - ((pre.length : Int) + 1 + 1 + 2 + 4) = _
        rw [hlen]; omega
    have hw8 : w % 8 = if p.more then 1 else 0 := by rw [hw]; split <;> omega
    have c6 : liAnd .i64 (w : Int) (liLit 6) = 0 := by
      rw [show liLit 6 = ((6 : Nat) : Int) from rfl, and_nat (by omega) (by omega), and_six]
      have : w / 2 % 4 = 0 := by split at hw8 <;> omega
      rw [this]; rfl
    have c7 : liAndNot .i64 (w : Int) (liLit 7) = p.off := by
      rw [andnot7 w (by omega), hw8, hw]; omega
    have c1 : lbEqI (liAnd .i64 (w : Int) (liLit 1)) (liLit 1) = p.more := by
      have e : liAnd .i64 (w : Int) (liLit 1) = ((w % 2 : Nat) : Int) := by
        have e1 : w &&& 1 = w % 2 := and_mask63 w 1
        rw [show liLit 1 = ((1 : Nat) : Int) from rfl, and_nat (by omega) (by omega), e1]
      rw [e]
      cases hm : p.more with
      | true => rw [hm] at hw8; rw [lbEqI_t]; simp only [if_true] at hw8; show ((w % 2 : Nat) : Int) = 1; omega
      | false => rw [hm] at hw8; rw [lbEqI_f]; simp only [Bool.false_eq_true, if_false] at hw8; show ((w % 2 : Nat) : Int) ≠ 1; omega
    rw [if_neg (by rw [left_nat, hlen]; omega), n1, n2, c6, n0, if_neg (by decide), if_neg (by decide), if_neg (by rw [h.spec]; decide)]
    unfold r6cut
    rw [n0, n2, n4, n8, c7, c1]
end Go.Adit

namespace Go.Adit
open Go.RowKit Go.Proofs
set_option maxRecDepth 100000
set_option maxHeartbeats 2000000
theorem chain_len {p : Packet} (h : Six p) : ∀ (i : Nat) (es : List Ext), fExts i es = true → (chain p es).2.length = (es.map fun x => 2 + x.body.length).sum + (rest0 p).length
  | _, [], _ => by simp [chain]
  | i, x :: t, hx => by
    unfold fExts at hx
    rw [Bool.and_eq_true] at hx
    obtain ⟨m, hm, hm2⟩ := chain_kind h hx.2
    have := chain_len h (i + 1) t hx.2
    show (lsCat (ext1 (chain p t).1 x) (chain p t).2).length = _
    rw [hm]
    simp only [lsCat, List.length_append, ext1_len hm2 (fExt_ok hx.1), this, List.map_cons, List.sum_cons]
    omega
theorem loop6 (hd p : Packet) (h : Six p) (x : List UInt8) : ∀ (es l : List Ext) (pre : List UInt8), fExts l.length es = true → l.length + es.length ≤ 4 → x = pre ++ (chain p es).2 →
    r6loop hd x (4 - l.length) (chain p es).1 l (pre.length : Int) = .good ⟨hd.src, hd.dst, p.proto, hd.hop, hd.cls, p.id, p.off, p.more, false, [], hd.flow, l ++ es, p.cut, p.pay⟩
  | [], l, pre, _, _, hx => by
    rw [List.append_nil]; exact fin6 hd p h x pre l hx _
  | e :: t, l, pre, hes, hn, hx => by
    unfold fExts at hes
    rw [Bool.and_eq_true] at hes
    have he := fExt_ok hes.1
    obtain ⟨m, hm, hm2⟩ := chain_kind h hes.2
    have hle := he.le; have hmod := he.mod; have hkd := he.kind
    have hn' : l.length + (t.length + 1) ≤ 4 := hn
    have hx' : x = pre ++ (fPut (m : Int) 1 ++ (fPut ((e.body.length / 8 : Nat) : Int) 1 ++ (e.body ++ (chain p t).2))) := by
      have : (chain p (e :: t)).2 = ext1 (chain p t).1 e ++ (chain p t).2 := rfl
      rw [hx, this, hm, ext1_eq hm2 he]; simp only [List.append_assoc]
    have hlen : x.length = pre.length + (1 + (1 + (e.body.length + (chain p t).2.length))) := by rw [hx']; simp only [List.length_append, fPut_len]
    show r6loop hd x (4 - l.length) e.kind l (pre.length : Int) = _
    rw [show 4 - l.length = (4 - (l.length + 1)) + 1 by omega, r6_s, if_pos (ext77 e.kind l x 0 (by omega))]
    rw [if_neg (by
      rintro ⟨h0, h1⟩
      have : l.length = 0 := by omega
      exact h1 (List.length_eq_zero_iff.1 this))]
    rw [if_neg (by rw [left_nat, hlen]; omega)]
    have n0 : fNum x (pre.length : Int) 1 = (m : Int) := fNum_put hx' rfl (by omega) (by omega)
    have n1 : fNum x (fAdv (pre.length : Int) (liLit 1)) 1 = ((e.body.length / 8 : Nat) : Int) := by
      have := fNum_put (b := x) (pre := pre ++ fPut (m : Int) 1) (n := e.body.length / 8) (k := 1) (a := pre.length + 1) (by simp only [List.append_assoc]; exact hx') (by rw [List.length_append, fPut_len]) (by omega) (by omega)
      exact this
    have hN : extN x (pre.length : Int) = (e.body.length : Int) := by
      unfold extN
      rw [n1, show liLit 8 = ((8 : Nat) : Int) from rfl, mul_nat _ _ (by omega), show liLit 6 = ((6 : Nat) : Int) from rfl, add_nat _ _ (by omega)]
      omega
    have a2 : adv2 (pre.length : Int) = ((pre.length + 2 : Nat) : Int) := by show (pre.length : Int) + 1 + 1 = _; omega
    rw [hN, a2]
    rw [if_neg (by rw [short_ff (by omega) (by rw [left_nat, hlen]; omega)]; decide)]
    have tk : fTake x ((pre.length + 2 : Nat) : Int) (e.body.length : Int) = e.body :=
      fTake_mid (b := x) (pre := pre ++ (fPut (m : Int) 1 ++ fPut ((e.body.length / 8 : Nat) : Int) 1)) (y := e.body) (post := (chain p t).2) (by simp only [List.append_assoc]; exact hx') (by simp only [List.length_append, fPut_len]) rfl
    rw [tk, n0, ← hm]
    have a3 : fAdv ((pre.length + 2 : Nat) : Int) (e.body.length : Int) = ((pre ++ (fPut (m : Int) 1 ++ (fPut ((e.body.length / 8 : Nat) : Int) 1 ++ e.body))).length : Int) := by
      show ((pre.length + 2 : Nat) : Int) + (e.body.length : Int) = _
      simp only [List.length_append, fPut_len]; omega
    rw [a3]
    have ih := loop6 hd p h x t (l ++ [e]) (pre ++ (fPut (m : Int) 1 ++ (fPut ((e.body.length / 8 : Nat) : Int) 1 ++ e.body))) (by simpa using hes.2) (by simp; omega) (by simp only [List.append_assoc]; exact hx')
    rw [show (l ++ [e]).length = l.length + 1 by simp] at ih
    rw [ih, List.append_assoc]; rfl
theorem sum_exts : ∀ (i : Nat) (es : List Ext), fExts i es = true → (es.map fun x => 2 + x.body.length).sum ≤ 2048 * es.length
  | _, [], _ => by simp
  | i, x :: t, h => by
    unfold fExts at h
    rw [Bool.and_eq_true] at h
    have := sum_exts (i + 1) t h.2
    have := (fExt_ok h.1).le
    simp only [List.map_cons, List.sum_cons, List.length_cons]; omega
theorem fold_ext : ∀ (i : Nat) (es : List Ext) (n : Nat), fExts i es = true → n + 2048 * es.length ≤ 2 ^ 40 → es.foldl addExt (n : Int) = ((n + (es.map fun x => 2 + x.body.length).sum : Nat) : Int)
  | _, [], n, _, _ => by simp
  | i, x :: t, n, h, hn => by
    unfold fExts at h
    rw [Bool.and_eq_true] at h
    have hle := (fExt_ok h.1).le
    simp only [List.length_cons] at hn
    have e : addExt (n : Int) x = ((n + (2 + x.body.length) : Nat) : Int) := by
      unfold addExt
      rw [show liLit 2 = ((2 : Nat) : Int) from rfl, show liLen x.body = ((x.body.length : Nat) : Int) from rfl, add_nat _ _ (by omega), add_nat _ _ (by omega)]
    rw [List.foldl_cons, e, fold_ext (i + 1) t _ h.2 (by omega)]
    simp only [List.map_cons, List.sum_cons]; congr 1; omega
theorem rest0_len {p : Packet} (h : Six p) : (rest0 p).length = (if p.cut then 8 else 0) + p.pay.length := by
  unfold rest0
  cases p.cut with
  | false => simp
  | true =>
    obtain ⟨w, hw, hw2, hf⟩ := frag_eq h
    simp only [if_true, lsCat, hf, List.length_append, fPut_len]
theorem six_size {p : Packet} (h : Six p) (hp : p.pay.length ≤ 2 ^ 40) : fSz p = ((40 + (chain p p.exts).2.length : Nat) : Int) := by
  have hf := h.few
  have hs := sum_exts 0 p.exts h.exts
  have e1 : p.exts.foldl addExt 40 = ((40 + (p.exts.map fun x => 2 + x.body.length).sum : Nat) : Int) := fold_ext 0 p.exts 40 h.exts (by omega)
  rw [chain_len h 0 p.exts h.exts, rest0_len h]
  unfold fSz fHead
  rw [h.s6, if_pos rfl, e1, show liLit 8 = ((8 : Nat) : Int) from rfl, show liLen p.pay = ((p.pay.length : Nat) : Int) from rfl]
  cases p.cut with
  | true => simp only [if_true]; rw [add_nat _ _ (by omega), add_nat _ _ (by omega)]; omega
  | false => simp only [Bool.false_eq_true, if_false]; rw [add_nat _ _ (by omega)]; omega
def six_w (p : Packet) : Nat := 2 ^ 28 * 6 + 2 ^ 20 * p.cls.toNat + p.flow.toNat
/-- the bytes of a packet of version 6 -/
theorem six_bytes {p : Packet} (h : Six p) (hp : p.pay.length ≤ 2 ^ 40) (hs : (chain p p.exts).2.length ≤ 65535) : ∃ k : Nat, (chain p p.exts).1 = (k : Int) ∧ k < 256 ∧
    fSix p = fPut ((six_w p : Nat) : Int) 4 ++ (fPut (((chain p p.exts).2.length : Nat) : Int) 2 ++ (fPut (k : Int) 1 ++ (fPut ((p.hop.toNat : Nat) : Int) 1 ++ (fBytes p.src ++ (fBytes p.dst ++ (chain p p.exts).2))))) := by
  obtain ⟨k, hk, hk2⟩ := chain_kind h h.exts
  refine ⟨k, hk, hk2, ?_⟩
  have hc := h.cls; have hf := h.flow; have hh := h.hop
  unfold fSix
  rw [chain_eq]
  unfold fSixOf
  rw [six_size h hp, hk]
  have e1 : liSub .i64 ((40 + (chain p p.exts).2.length : Nat) : Int) (liLit 40) = (((chain p p.exts).2.length : Nat) : Int) := by
    rw [show liLit 40 = (40 : Int) from rfl, sub64 (by omega) (by omega)]; omega
  have e2 : liOr .i64 (liOr .i64 (liLit 1610612736) (liShl .i64 p.cls (liLit 20))) p.flow = ((six_w p : Nat) : Int) := by
    have es : liShl .i64 p.cls (liLit 20) = ((2 ^ 20 * p.cls.toNat : Nat) : Int) := by
      show IntKind.i64.wrap (p.cls * 2 ^ (min (20 : Int).toNat 64)) = _
      rw [show min (20 : Int).toNat 64 = 20 from rfl, wi64 (by omega) (by omega)]
      omega
    rw [es, show liLit 1610612736 = ((2 ^ 28 * 6 : Nat) : Int) from rfl, or_nat (by omega) (by omega), or_add (a := 6) (k := 28) (by omega)]
    rw [show p.flow = ((p.flow.toNat : Nat) : Int) by omega, or_nat (by omega) (by omega)]
    have := or_add (a := 2 ^ 8 * 6 + p.cls.toNat) (b := p.flow.toNat) (k := 20) (by omega)
    rw [show 2 ^ 20 * (2 ^ 8 * 6 + p.cls.toNat) = 2 ^ 28 * 6 + 2 ^ 20 * p.cls.toNat by omega] at this
    rw [this]; rfl
  rw [e1, e2, conv_u64 (n := ((six_w p : Nat) : Int)) (by omega) (by unfold six_w; omega), conv_u64 (n := (((chain p p.exts).2.length : Nat) : Int)) (by omega) (by omega), conv_u64 (n := (k : Int)) (by omega) (by omega), conv_u64 (n := p.hop) (by omega) (by omega)]
  rw [show p.hop = ((p.hop.toNat : Nat) : Int) by omega]
  simp only [lsCat, fEnds, List.append_assoc, Int.toNat_natCast]
theorem six_len {p : Packet} (h : Six p) (hp : p.pay.length ≤ 2 ^ 40) (hs : (chain p p.exts).2.length ≤ 65535) : (fSix p).length = 40 + (chain p p.exts).2.length := by
  obtain ⟨k, _, _, hb⟩ := six_bytes h hp hs
  rw [hb]; simp only [List.length_append, fPut_len, fBytes_len16 h.s6, fBytes_len16 h.d6]; omega
/-- what is read of it -/
theorem six_back {p : Packet} (h : Six p) (hp : p.pay.length ≤ 2 ^ 40) (hs : (chain p p.exts).2.length ≤ 65535) (r : List UInt8) : r6of (fSix p ++ r) = .good p := by
  obtain ⟨k, hk, hk2, hb⟩ := six_bytes h hp hs
  have hl := six_len h hp hs
  have hc := h.cls; have hf := h.flow; have hh := h.hop
  generalize hbb : fSix p ++ r = b
  rw [hb] at hbb
  simp only [List.append_assoc] at hbb
  have hbl : b.length = 40 + (chain p p.exts).2.length + r.length := by rw [← hbb]; simp only [List.length_append, fPut_len, fBytes_len16 h.s6, fBytes_len16 h.d6]; omega
  have hbb' := hbb.symm
  have n0 : fNum b (liLit 0) 4 = ((six_w p : Nat) : Int) := fNum_put (b := b) (pre := []) (a := 0) hbb' rfl (by omega) (by unfold six_w; omega)
  have n4 : fNum b (liLit 4) 2 = (((chain p p.exts).2.length : Nat) : Int) := fNum_put (b := b) (pre := fPut ((six_w p : Nat) : Int) 4) (a := 4) hbb' rfl (by omega) (by omega)
  have n6 : fNum b (liLit 6) 1 = (k : Int) := fNum_put (b := b) (pre := fPut ((six_w p : Nat) : Int) 4 ++ fPut (((chain p p.exts).2.length : Nat) : Int) 2) (a := 6) (by simp only [List.append_assoc]; exact hbb') rfl (by omega) (by omega)
  have n7 : fNum b (liLit 7) 1 = p.hop := by
    have := fNum_put (b := b) (pre := fPut ((six_w p : Nat) : Int) 4 ++ (fPut (((chain p p.exts).2.length : Nat) : Int) 2 ++ fPut (k : Int) 1)) (n := p.hop.toNat) (k := 1) (a := 7) (by simp only [List.append_assoc]; exact hbb') rfl (by omega) (by omega)
    rw [show p.hop = ((p.hop.toNat : Nat) : Int) by omega]; exact this
  have a8 : fAddrAt b (liLit 8) 16 = p.src := fAddrAt_mid (b := b) (pre := fPut ((six_w p : Nat) : Int) 4 ++ (fPut (((chain p p.exts).2.length : Nat) : Int) 2 ++ (fPut (k : Int) 1 ++ fPut ((p.hop.toNat : Nat) : Int) 1))) (by simp only [List.append_assoc]; exact hbb') rfl (fBytes_len16 h.s6) h.src
  have a24 : fAddrAt b (liLit 24) 16 = p.dst := fAddrAt_mid (b := b) (pre := fPut ((six_w p : Nat) : Int) 4 ++ (fPut (((chain p p.exts).2.length : Nat) : Int) 2 ++ (fPut (k : Int) 1 ++ (fPut ((p.hop.toNat : Nat) : Int) 1 ++ fBytes p.src)))) (by simp only [List.append_assoc]; exact hbb') (by simp only [List.length_append, fPut_len, fBytes_len16 h.s6]; rfl) (fBytes_len16 h.d6) h.dst
  have hX : r6x b = (chain p p.exts).2 := by
    unfold r6x
    rw [n4]
    exact fTake_mid (b := b) (pre := fPut ((six_w p : Nat) : Int) 4 ++ (fPut (((chain p p.exts).2.length : Nat) : Int) 2 ++ (fPut (k : Int) 1 ++ (fPut ((p.hop.toNat : Nat) : Int) 1 ++ (fBytes p.src ++ fBytes p.dst))))) (by simp only [List.append_assoc]; exact hbb') (by simp only [List.length_append, fPut_len, fBytes_len16 h.s6, fBytes_len16 h.d6]; rfl) rfl
  have hcls : liAnd .i64 (liShr .i64 ((six_w p : Nat) : Int) (liLit 20)) (liLit 255) = p.cls := by
    rw [show liLit 20 = liLit ((20 : Nat) : Int) from rfl, shr_nat (by omega), show liLit 255 = ((255 : Nat) : Int) from rfl, and_nat (by unfold six_w; omega) (by omega)]
    have e1 : ∀ n, n &&& 255 = n % 256 := fun n => and_mask63 n 8
    rw [e1]; unfold six_w; omega
  have hflow : liAnd .i64 ((six_w p : Nat) : Int) (liLit 1048575) = p.flow := by
    rw [show liLit 1048575 = ((1048575 : Nat) : Int) from rfl, and_nat (by unfold six_w; omega) (by omega)]
    have e1 : ∀ n, n &&& 1048575 = n % 2 ^ 20 := fun n => and_mask63 n 20
    rw [e1]; unfold six_w; omega
  unfold r6of
  rw [n4, if_neg (by rw [short_ff (by omega) (by show _ ≤ (b.length : Int) - 40; omega)]; decide), hX, n6, ← hk]
  have := loop6 (r6hd b) p h (chain p p.exts).2 p.exts [] [] h.exts (by have := h.few; simpa using this) rfl
  refine this.trans ?_
  unfold r6hd
  simp only [a8, a24, n7, n0, hcls, hflow, List.nil_append]
  have e1 := h.opts; have e2 := h.still
  obtain ⟨src, dst, proto, hop, cls, id, off, more, still, opts, flow, exts, cut, pay⟩ := p
  simp only at e1 e2
  subst e1 e2; rfl
end Go.Adit

namespace Go.Adit
open Go.RowKit Go.Proofs
set_option maxRecDepth 100000
set_option maxHeartbeats 2000000
theorem num_app {b r : List UInt8} {i k : Nat} (h : i + k ≤ b.length) : num (b ++ r) i k = num b i k := by
  unfold num
  rw [List.drop_append_of_le_length (by omega), List.take_append_of_le_length (by rw [List.length_drop]; omega)]
theorem lsSub_app {b r : List UInt8} {i j : Int} (h : j.toNat ≤ b.length) : lsSub (b ++ r) i j = lsSub b i j := by
  unfold lsSub
  rw [List.take_append_of_le_length h]
theorem r4h_app {b r : List UInt8} (h : 20 ≤ b.length) : r4h (b ++ r) = r4h b := by unfold r4h; rw [num_app (by omega)]
theorem fAddrAt_app {b r : List UInt8} {i k : Nat} (h : i + k ≤ b.length) : fAddrAt (b ++ r) (i : Int) k = fAddrAt b (i : Int) k := by
  unfold fAddrAt
  rw [show liLit (k : Int) = ((k : Nat) : Int) from rfl, fTake_eq _ _ _ (by rw [List.length_append]; omega), fTake_eq _ _ _ h, List.drop_append_of_le_length (by omega), List.take_append_of_le_length (by rw [List.length_drop]; omega)]
theorem verOf_nat {b : List UInt8} : verOf b = (((b.getD 0 0).toNat / 16 : Nat) : Int) := by
  show (liOfByte (b.getD 0 0)).fdiv (2 ^ (min (4 : Int).toNat 8)) = _
  show (((b.getD 0 0).toNat : Nat) : Int).fdiv 16 = _
  rw [Int.fdiv_eq_ediv_of_nonneg _ (by decide)]; rfl
theorem verOf_app {b r : List UInt8} (h : b ≠ []) : verOf (b ++ r) = verOf b := by
  rw [verOf_nat, verOf_nat]
  cases b with
  | nil => exact absurd rfl h
  | cons x t => rfl
structure Laid4 (p : Packet) where
  m : Nat
  s : Nat
  w : Nat
  hm : m = 64 + (20 + p.opts.length) / 4
  hw : w = p.off.toNat / 8 + (if p.more then 8192 else 0) + (if p.still then 16384 else 0)
  hs : s < 65536
  hS : fSum4 p = (s : Int)
  hA : fA4 p = fPut (m : Int) 1 ++ (fPut ((p.cls.toNat : Nat) : Int) 1 ++ (fPut ((20 + p.opts.length + p.pay.length : Nat) : Int) 2 ++ (fPut ((p.id.toNat : Nat) : Int) 2 ++ (fPut (w : Int) 2 ++ (fPut ((p.hop.toNat : Nat) : Int) 1 ++ fPut ((p.proto.toNat : Nat) : Int) 1)))))
  bytes : fFour p = fPut (m : Int) 1 ++ (fPut ((p.cls.toNat : Nat) : Int) 1 ++ (fPut ((20 + p.opts.length + p.pay.length : Nat) : Int) 2 ++ (fPut ((p.id.toNat : Nat) : Int) 2 ++ (fPut (w : Int) 2 ++ (fPut ((p.hop.toNat : Nat) : Int) 1 ++ (fPut ((p.proto.toNat : Nat) : Int) 1 ++
    (fPut (s : Int) 2 ++ (fBytes p.src ++ (fBytes p.dst ++ (p.opts ++ p.pay))))))))))
theorem off_word (o : Nat) (ho : o < 8192) (m s : Bool) : liOr .i64 (liOr .i64 (o : Int) (fFlag m (liLit 8192))) (fFlag s (liLit 16384)) = ((o + (if m then 8192 else 0) + (if s then 16384 else 0) : Nat) : Int) := by
  have e1 : liOr .i64 (o : Int) (fFlag m (liLit 8192)) = ((o + (if m then 8192 else 0) : Nat) : Int) := by
    cases m with
    | true =>
      show liOr .i64 (o : Int) ((8192 : Nat) : Int) = ((o + 8192 : Nat) : Int)
      rw [or_nat (by omega) (by omega), Nat.or_comm]
      have := or_add (a := 1) (b := o) (k := 13) (by omega)
      rw [show 8192 = 2 ^ 13 * 1 from rfl, this]; omega
    | false =>
      show liOr .i64 (o : Int) ((0 : Nat) : Int) = ((o + 0 : Nat) : Int)
      rw [or_nat (by omega) (by omega)]; simp
  rw [e1]
  generalize hq : (o + (if m then 8192 else 0)) = q
  have hq2 : q < 16384 := by rw [← hq]; split <;> omega
  cases s with
  | true =>
    show liOr .i64 (q : Int) ((16384 : Nat) : Int) = ((q + 16384 : Nat) : Int)
    rw [or_nat (by omega) (by omega), Nat.or_comm]
    have := or_add (a := 1) (b := q) (k := 14) (by omega)
    rw [show 16384 = 2 ^ 14 * 1 from rfl, this]; omega
  | false =>
    show liOr .i64 (q : Int) ((0 : Nat) : Int) = ((q + 0 : Nat) : Int)
    rw [or_nat (by omega) (by omega)]; simp
theorem four_laid {p : Packet} (h : Four p) (hp : p.pay.length ≤ 2 ^ 40) (hs : 20 + p.opts.length + p.pay.length ≤ 65535) : Nonempty (Laid4 p) := by
  have hh := four_head h; have hz := four_size h hp
  have o40 := h.o40; have hcl := h.cls; have hid := h.id; have hof := h.off; have h8 := h.off8; have hho := h.hop; have hpr := h.proto
  obtain ⟨s, hS, hsl⟩ : ∃ s : Nat, fSum4 p = (s : Int) ∧ s < 65536 := by
    have hf := foldN_le (wordSum false [fA4 p, fEnds p, p.opts].flatten)
    refine ⟨65535 - foldN (wordSum false [fA4 p, fEnds p, p.opts].flatten), ?_, by omega⟩
    show (65535 : Int) - ((foldN (wordSum false [fA4 p, fEnds p, p.opts].flatten) : Nat) : Int) = _
    omega
  have e1 : liOr .i64 (liLit 64) (liQuo .i64 (fHead p) (liLit 4)) = ((64 + (20 + p.opts.length) / 4 : Nat) : Int) := by
    rw [hh, show liLit 4 = ((4 : Nat) : Int) from rfl, quo_nat _ _ (by omega), orHead _ (by omega)]
  have e2 : liQuo .i64 p.off (liLit 8) = ((p.off.toNat / 8 : Nat) : Int) := by
    rw [show p.off = ((p.off.toNat : Nat) : Int) by omega, show liLit 8 = ((8 : Nat) : Int) from rfl, quo_nat _ _ (by omega)]; rfl
  have hA : fA4 p = lsCat (lsCat (lsCat (lsCat (lsCat (lsCat (fPut (liConv .u64 (liOr .i64 (liLit 64) (liQuo .i64 (fHead p) (liLit 4)))) 1) (fPut (liConv .u64 p.cls) 1)) (fPut (liConv .u64 (fSz p)) 2)) (fPut (liConv .u64 p.id) 2)) (fPut (liConv .u64 (liOr .i64 (liOr .i64 (liQuo .i64 p.off (liLit 8)) (fFlag p.more (liLit 8192))) (fFlag p.still (liLit 16384)))) 2)) (fPut (liConv .u64 p.hop) 1)) (fPut (liConv .u64 p.proto) 1) := rfl
  rw [e1, e2, off_word _ (by omega), hz] at hA
  rw [conv_u64 (n := ((64 + (20 + p.opts.length) / 4 : Nat) : Int)) (by omega) (by omega), conv_u64 (n := p.cls) (by omega) (by omega), conv_u64 (n := ((20 + p.opts.length + p.pay.length : Nat) : Int)) (by omega) (by omega), conv_u64 (n := p.id) (by omega) (by omega),
    conv_u64 (n := ((p.off.toNat / 8 + (if p.more then 8192 else 0) + (if p.still then 16384 else 0) : Nat) : Int)) (by omega) (by split <;> split <;> omega), conv_u64 (n := p.hop) (by omega) (by omega), conv_u64 (n := p.proto) (by omega) (by omega)] at hA
  rw [show fPut p.cls 1 = fPut ((p.cls.toNat : Nat) : Int) 1 by congr 1; omega, show fPut p.id 2 = fPut ((p.id.toNat : Nat) : Int) 2 by congr 1; omega, show fPut p.hop 1 = fPut ((p.hop.toNat : Nat) : Int) 1 by congr 1; omega, show fPut p.proto 1 = fPut ((p.proto.toNat : Nat) : Int) 1 by congr 1; omega] at hA
  simp only [lsCat, List.append_assoc] at hA
  refine ⟨⟨_, s, _, rfl, rfl, hsl, hS, hA, ?_⟩⟩
  unfold fFour
  rw [hS, conv_u64 (n := (s : Int)) (by omega) (by omega), hA]
  simp only [lsCat, fEnds, List.append_assoc]
theorem num_at {b pre post : List UInt8} {n k i : Nat} (hb : b = pre ++ (fPut (n : Int) k ++ post)) (hi : pre.length = i) (hk : k ≤ 4) (hn : n < 256 ^ k) : num b i k = n := by
  subst hb hi; exact num_put pre post n k hk hn
theorem lsSub_mid {b pre y post : List UInt8} {i j : Int} (hb : b = pre ++ (y ++ post)) (hi : i = (pre.length : Int)) (hj : j = ((pre.length + y.length : Nat) : Int)) : lsSub b i j = y := by
  subst hb hi hj
  unfold lsSub
  rw [Int.toNat_natCast, Int.toNat_natCast, List.drop_take, List.drop_left, show pre.length + y.length - pre.length = y.length by omega, List.take_left]
theorem four_pkt {p : Packet} (h : Four p) (hp : p.pay.length ≤ 2 ^ 40) (hs : 20 + p.opts.length + p.pay.length ≤ 65535) : r4pkt (fFour p) = p ∧ r4err (fFour p) = none := by
  obtain ⟨m, s, w, hm, hw, hs2, _, _, hb⟩ := four_laid h hp hs
  have H := four_hdr h hp (by rw [four_size h hp]; omega)
  have o40 := h.o40; have o4 := h.o4; have hcl := h.cls; have hid := h.id; have hof := h.off; have h8 := h.off8; have hho := h.hop; have hpr := h.proto
  have l4 := fBytes_len4 h.src h.s4
  have l4' := fBytes_len4 h.dst h.d4
  have hr : r4h (fFour p) = 20 + p.opts.length := by
    unfold r4h
    rw [num1 _ 0 (by have := H.len; omega), H.b0]
    omega
  have n0 : num (fFour p) 9 1 = p.proto.toNat := num_at (b := fFour p) (pre := fPut (m : Int) 1 ++ (fPut ((p.cls.toNat : Nat) : Int) 1 ++ (fPut ((20 + p.opts.length + p.pay.length : Nat) : Int) 2 ++ (fPut ((p.id.toNat : Nat) : Int) 2 ++ (fPut (w : Int) 2 ++ fPut ((p.hop.toNat : Nat) : Int) 1))))) (by simp only [List.append_assoc]; exact hb) rfl (by omega) (by omega)
  have n8 : num (fFour p) 8 1 = p.hop.toNat := num_at (b := fFour p) (pre := fPut (m : Int) 1 ++ (fPut ((p.cls.toNat : Nat) : Int) 1 ++ (fPut ((20 + p.opts.length + p.pay.length : Nat) : Int) 2 ++ (fPut ((p.id.toNat : Nat) : Int) 2 ++ fPut (w : Int) 2)))) (by simp only [List.append_assoc]; exact hb) rfl (by omega) (by omega)
  have hwl : w < 65536 := by rw [hw]; split <;> split <;> omega
  have n6 : num (fFour p) 6 2 = w := num_at (b := fFour p) (pre := fPut (m : Int) 1 ++ (fPut ((p.cls.toNat : Nat) : Int) 1 ++ (fPut ((20 + p.opts.length + p.pay.length : Nat) : Int) 2 ++ fPut ((p.id.toNat : Nat) : Int) 2))) (by simp only [List.append_assoc]; exact hb) rfl (by omega) (by omega)
  have n4 : num (fFour p) 4 2 = p.id.toNat := num_at (b := fFour p) (pre := fPut (m : Int) 1 ++ (fPut ((p.cls.toNat : Nat) : Int) 1 ++ fPut ((20 + p.opts.length + p.pay.length : Nat) : Int) 2)) (by simp only [List.append_assoc]; exact hb) rfl (by omega) (by omega)
  have n1 : num (fFour p) 1 1 = p.cls.toNat := num_at (b := fFour p) (pre := fPut (m : Int) 1) hb rfl (by omega) (by omega)
  have n2 : num (fFour p) 2 2 = 20 + p.opts.length + p.pay.length := by rw [H.size, H.len]
  have a12 : fAddrAt (fFour p) 12 4 = p.src := fAddrAt_mid (b := fFour p) (pre := fPut (m : Int) 1 ++ (fPut ((p.cls.toNat : Nat) : Int) 1 ++ (fPut ((20 + p.opts.length + p.pay.length : Nat) : Int) 2 ++ (fPut ((p.id.toNat : Nat) : Int) 2 ++ (fPut (w : Int) 2 ++ (fPut ((p.hop.toNat : Nat) : Int) 1 ++ (fPut ((p.proto.toNat : Nat) : Int) 1 ++ fPut (s : Int) 2))))))) (by simp only [List.append_assoc]; exact hb) rfl l4 h.src
  have a16 : fAddrAt (fFour p) 16 4 = p.dst := fAddrAt_mid (b := fFour p) (pre := fPut (m : Int) 1 ++ (fPut ((p.cls.toNat : Nat) : Int) 1 ++ (fPut ((20 + p.opts.length + p.pay.length : Nat) : Int) 2 ++ (fPut ((p.id.toNat : Nat) : Int) 2 ++ (fPut (w : Int) 2 ++ (fPut ((p.hop.toNat : Nat) : Int) 1 ++ (fPut ((p.proto.toNat : Nat) : Int) 1 ++ (fPut (s : Int) 2 ++ fBytes p.src)))))))) (by simp only [List.append_assoc]; exact hb) (by simp only [List.length_append, fPut_len, l4]; rfl) l4' h.dst
  have eo : lsSub (fFour p) 20 (r4h (fFour p) : Int) = p.opts := lsSub_mid (b := fFour p) (pre := fPut (m : Int) 1 ++ (fPut ((p.cls.toNat : Nat) : Int) 1 ++ (fPut ((20 + p.opts.length + p.pay.length : Nat) : Int) 2 ++ (fPut ((p.id.toNat : Nat) : Int) 2 ++ (fPut (w : Int) 2 ++ (fPut ((p.hop.toNat : Nat) : Int) 1 ++ (fPut ((p.proto.toNat : Nat) : Int) 1 ++ (fPut (s : Int) 2 ++ (fBytes p.src ++ fBytes p.dst))))))))) (y := p.opts) (post := p.pay) (by simp only [List.append_assoc]; exact hb) (by simp only [List.length_append, fPut_len, l4, l4']; rfl) (by rw [hr]; simp only [List.length_append, fPut_len, l4, l4'])
  have ep : lsSub (fFour p) (r4h (fFour p) : Int) ((20 + p.opts.length + p.pay.length : Nat) : Int) = p.pay := lsSub_mid (b := fFour p) (pre := fPut (m : Int) 1 ++ (fPut ((p.cls.toNat : Nat) : Int) 1 ++ (fPut ((20 + p.opts.length + p.pay.length : Nat) : Int) 2 ++ (fPut ((p.id.toNat : Nat) : Int) 2 ++ (fPut (w : Int) 2 ++ (fPut ((p.hop.toNat : Nat) : Int) 1 ++ (fPut ((p.proto.toNat : Nat) : Int) 1 ++ (fPut (s : Int) 2 ++ (fBytes p.src ++ (fBytes p.dst ++ p.opts)))))))))) (y := p.pay) (post := []) (by simp only [List.append_assoc, List.append_nil]; exact hb) (by rw [hr]; simp only [List.length_append, fPut_len, l4, l4']; omega) (by simp only [List.length_append, fPut_len, l4, l4']; omega)
  have hwm : w / 8192 % 2 = if p.more then 1 else 0 := by rw [hw]; split <;> split <;> omega
  have hws : w / 16384 % 2 = if p.still then 1 else 0 := by rw [hw]; split <;> split <;> omega
  have hwo : w % 8192 = p.off.toNat / 8 := by rw [hw]; split <;> split <;> omega
  have c1 : liMul .i64 (liAnd .i64 (w : Int) 8191) 8 = p.off := by
    have e1 : w &&& 8191 = w % 8192 := and_mask63 w 13
    have : liAnd .i64 (w : Int) 8191 = ((w % 8192 : Nat) : Int) := by rw [← e1]; exact and_nat (a := w) (b := 8191) (by omega) (by omega)
    rw [this, hwo]
    have := mul_nat (p.off.toNat / 8) 8 (by omega)
    refine this.trans ?_
    omega
  have c2 : lbNot (lbEqI (liAnd .i64 (w : Int) 8192) 0) = p.more := by
    have e1 : w &&& 8192 = 8192 * (w / 8192 % 2) := and_bit w 13
    have : liAnd .i64 (w : Int) 8192 = ((8192 * (w / 8192 % 2) : Nat) : Int) := by rw [← e1]; exact and_nat (a := w) (b := 8192) (by omega) (by omega)
    rw [this, hwm]
    cases p.more <;> rfl
  have c3 : lbNot (lbEqI (liAnd .i64 (w : Int) 16384) 0) = p.still := by
    have e1 : w &&& 16384 = 16384 * (w / 16384 % 2) := and_bit w 14
    have : liAnd .i64 (w : Int) 16384 = ((16384 * (w / 16384 % 2) : Nat) : Int) := by rw [← e1]; exact and_nat (a := w) (b := 16384) (by omega) (by omega)
    rw [this, hws]
    cases p.still <;> rfl
  constructor
  · unfold r4pkt
    rw [n0, n8, n1, n4, n6, n2, a12, a16, c1, c2, c3, eo, ep]
    have f1 := h.flow; have f2 := h.exts; have f3 := h.cut
    rw [show ((p.proto.toNat : Nat) : Int) = p.proto by omega, show ((p.hop.toNat : Nat) : Int) = p.hop by omega, show ((p.cls.toNat : Nat) : Int) = p.cls by omega, show ((p.id.toNat : Nat) : Int) = p.id by omega]
    obtain ⟨src, dst, proto, hop, cls, id, off, more, still, opts, flow, exts, cut, pay⟩ := p
    simp only at f1 f2 f3
    subst f1 f2 f3; rfl
  · unfold r4err
    rw [if_neg (by have := H.len; rw [hr, n2]; omega), if_neg (fun hne => hne H.sum), if_neg (by rw [n6, hw]; split <;> split <;> omega)]
theorem four_back {p : Packet} (h : Four p) (hp : p.pay.length ≤ 2 ^ 40) (hs : 20 + p.opts.length + p.pay.length ≤ 65535) (r : List UInt8) : r4pkt (fFour p ++ r) = p ∧ r4err (fFour p ++ r) = none := by
  obtain ⟨h1, h2⟩ := four_pkt h hp hs
  have H := four_hdr h hp (by rw [four_size h hp]; omega)
  have hl := H.len
  have hr : r4h (fFour p) = 20 + p.opts.length := by
    unfold r4h
    have := h.o40; have := h.o4
    rw [num1 _ 0 (by omega), H.b0]
    omega
  have hn : num (fFour p) 2 2 = (fFour p).length := H.size
  constructor
  · refine Eq.trans ?_ h1
    unfold r4pkt
    rw [r4h_app (by omega), num_app (by omega), num_app (by omega), num_app (by omega), num_app (by omega), num_app (by omega), num_app (by omega)]
    have a1 : fAddrAt (fFour p ++ r) 12 4 = fAddrAt (fFour p) 12 4 := fAddrAt_app (i := 12) (k := 4) (by omega)
    have a2 : fAddrAt (fFour p ++ r) 16 4 = fAddrAt (fFour p) 16 4 := fAddrAt_app (i := 16) (k := 4) (by omega)
    rw [a1, a2, lsSub_app (by rw [Int.toNat_natCast]; omega), lsSub_app (by rw [Int.toNat_natCast]; omega)]
  · rw [← h2]
    unfold r4err r4sum
    rw [r4h_app (by omega), num_app (by omega), num_app (by omega), num_app (by omega), lsSub_app (by show 10 ≤ _; omega), lsSub_app (by rw [Int.toNat_natCast]; omega), List.length_append]
    have h2' := h2
    unfold r4err r4sum at h2'
    have hc : 20 ≤ r4h (fFour p) ∧ r4h (fFour p) ≤ (fFour p).length ∧ r4h (fFour p) ≤ num (fFour p) 2 2 ∧ num (fFour p) 2 2 ≤ (fFour p).length := by omega
    rw [if_neg (by omega), if_neg (c := ¬ (20 ≤ r4h (fFour p) ∧ r4h (fFour p) ≤ (fFour p).length ∧ r4h (fFour p) ≤ num (fFour p) 2 2 ∧ num (fFour p) 2 2 ≤ (fFour p).length)) (fun h => h hc)]
end Go.Adit

namespace Go.Adit
open Go.RowKit Go.Proofs
set_option maxRecDepth 100000
set_option maxHeartbeats 2000000
theorem r4err_ne0 {b : List UInt8} {e : Int} (h : r4err b = some e) : e ≠ 0 := by rcases r4err_in h with h | h | h <;> omega
theorem fPP_bad {b : List UInt8} (h : fPC b ≠ 0) : fPP b = zPkt := by
  unfold fPC at h
  unfold fPP
  by_cases h0 : b = []
  · rw [if_neg (fun x => x.1 h0), if_neg (fun x => x.1 h0)]
  rw [if_neg h0] at h
  by_cases h4 : verOf b = 4
  · rw [if_pos h4] at h
    rw [if_neg (c := b ≠ [] ∧ verOf b = 6 ∧ 40 ≤ b.length) (fun x => absurd (h4.symm.trans x.2.1) (by decide))]
    refine if_neg fun x => ?_
    rw [if_neg (by omega), x.2.2.2] at h
    exact h rfl
  rw [if_neg h4] at h
  rw [if_neg (fun x => h4 x.2.1)]
  by_cases h6 : verOf b = 6
  · by_cases hl : 40 ≤ b.length
    · rw [if_pos ⟨h0, h6, hl⟩]
      rw [if_pos h6, if_neg (by omega)] at h
      unfold r6code at h
      unfold r6pkt
      cases e : r6of b with
      | bad e => rfl
      | good q => rw [e] at h; exact absurd rfl h
    · rw [if_neg (fun x => hl x.2.2)]
  · rw [if_neg (fun x => h6 x.2.1)]
/-- what is built, of either version -/
inductive Built (p : Packet) : Prop
  | four (h : Four p) (hv : p.src.v6 = false) (hs : 20 + p.opts.length + p.pay.length ≤ 65535) (hb : fBuildG p = fFour p)
  | six (h : Six p) (hv : p.src.v6 = true) (hs : (chain p p.exts).2.length ≤ 65535) (hb : fBuildG p = fSix p)
theorem built_of {p : Packet} (hp : p.pay.length ≤ 2 ^ 40) (hC : fBuildC p = 0) : fRight p = true ∧ Built p := by
  rcases build_cases p with ⟨_, h2, h | h⟩ | h
  · refine ⟨h2, ?_⟩
    have hS := six_of h2 h.1
    have hz := six_size hS hp
    have hle : (chain p p.exts).2.length ≤ 65535 := by
      have h3 := h.2.1
      rw [hz] at h3
      have hf := hS.few
      have hl := chain_len hS 0 p.exts hS.exts
      have hx := sum_exts 0 p.exts hS.exts
      have hr := rest0_len hS
      have : (if p.cut = true then 8 else 0) ≤ 8 := by split <;> omega
      rw [sub64 (by omega) (by omega)] at h3
      omega
    exact .six hS h.1 hle h.2.2
  · refine ⟨h2, ?_⟩
    have hF := four_of h2 h.1
    have hz := four_size hF hp
    refine .four hF h.1 ?_ h.2.2
    have := h.2.1
    rw [hz] at this; omega
  · exact absurd hC h.2
theorem four_len {p : Packet} (h : Four p) (hp : p.pay.length ≤ 2 ^ 40) (hs : 20 + p.opts.length + p.pay.length ≤ 65535) : (fFour p).length = 20 + p.opts.length + p.pay.length := (four_hdr h hp (by rw [four_size h hp]; omega)).len
theorem four_ver {p : Packet} (h : Four p) (hp : p.pay.length ≤ 2 ^ 40) (hs : 20 + p.opts.length + p.pay.length ≤ 65535) : verOf (fFour p) = 4 := by
  have H := four_hdr h hp (by rw [four_size h hp]; omega)
  have := h.o40; have := h.o4
  rw [verOf_nat, H.b0]; omega
theorem six_ver {p : Packet} (h : Six p) (hp : p.pay.length ≤ 2 ^ 40) (hs : (chain p p.exts).2.length ≤ 65535) : verOf (fSix p) = 6 := by
  obtain ⟨k, _, _, hb⟩ := six_bytes h hp hs
  have hc := h.cls; have hf := h.flow
  rw [verOf_nat, hb]
  have e : (fPut ((six_w p : Nat) : Int) 4 ++ (fPut (((chain p p.exts).2.length : Nat) : Int) 2 ++ (fPut (k : Int) 1 ++ (fPut ((p.hop.toNat : Nat) : Int) 1 ++ (fBytes p.src ++ (fBytes p.dst ++ (chain p p.exts).2)))))).getD 0 0 = byteOf ((six_w p : Nat) : Int) 3 := rfl
  rw [e, byteOf_toNat _ 3 (by omega)]
  unfold six_w
  omega
theorem take_ver {b : List UInt8} {k : Nat} (hk : 0 < k) : verOf (b.take k) = verOf b := by
  rw [verOf_nat, verOf_nat]
  cases b with
  | nil => simp
  | cons x t => cases k with
    | zero => omega
    | succ k => rfl
/-- THE BACK WAY: what was built is read again -/
theorem back {p : Packet} (hp : p.pay.length ≤ 2 ^ 40) (hC : fBuildC p = 0) (r : List UInt8) : fPC (fBuildG p ++ r) = 0 ∧ fPP (fBuildG p ++ r) = p ∧ ((fBuildG p).length : Int) = fSize p ∧ 20 ≤ (fBuildG p).length := by
  obtain ⟨hr, hB⟩ := built_of hp hC
  have hz : fSize p = fSz p := by unfold fSize; rw [if_pos hr]; rfl
  cases hB with
  | four h hv hs hb =>
    rw [hb, hz, four_size h hp]
    have hl := four_len h hp hs
    have hver := four_ver h hp hs
    obtain ⟨k1, k2⟩ := four_back h hp hs r
    have hne : fFour p ≠ [] := by intro e; rw [e] at hl; simp at hl; omega
    have hne' : fFour p ++ r ≠ [] := fun e => hne (List.append_eq_nil_iff.1 e).1
    have hv' : verOf (fFour p ++ r) = 4 := by rw [verOf_app hne]; exact hver
    have hll : (fFour p ++ r).length = (fFour p).length + r.length := List.length_append
    refine ⟨?_, ?_, by omega, by omega⟩
    · unfold fPC; rw [if_neg hne', if_pos hv', if_neg (by omega), k2]; rfl
    · unfold fPP; rw [if_pos ⟨hne', hv', by omega, k2⟩, k1]
  | six h hv hs hb =>
    rw [hb, hz, six_size h hp]
    have hl := six_len h hp hs
    have hver := six_ver h hp hs
    have k1 := six_back h hp hs r
    have hne : fSix p ≠ [] := by intro e; rw [e] at hl; simp at hl; omega
    have hne' : fSix p ++ r ≠ [] := fun e => hne (List.append_eq_nil_iff.1 e).1
    have hv' : verOf (fSix p ++ r) = 6 := by rw [verOf_app hne]; exact hver
    have hll : (fSix p ++ r).length = (fSix p).length + r.length := List.length_append
    refine ⟨?_, ?_, by omega, by omega⟩
    · unfold fPC; rw [if_neg hne', if_neg (by rw [hv']; decide), if_pos hv', if_neg (by omega)]; unfold r6code; rw [k1]
    · unfold fPP; rw [if_neg (fun x => absurd (hv'.symm.trans x.2.1) (by decide)), if_pos ⟨hne', hv', by omega⟩]; unfold r6pkt; rw [k1]
theorem num_take {b : List UInt8} {i k n : Nat} (h : i + k ≤ n) : num (b.take n) i k = num b i k := by
  unfold num
  rw [List.drop_take, List.take_take, Nat.min_eq_left (by omega)]
/-- what was cut short is refused -/
theorem cut_short {p : Packet} (hp : p.pay.length ≤ 2 ^ 40) (hC : fBuildC p = 0) (k : Nat) (hk : k < (fBuildG p).length) :
    fPC ((fBuildG p).take k) = if k < 20 ∨ (p.src.v6 = true ∧ k < 40) then 70 else 72 := by
  obtain ⟨hr, hB⟩ := built_of hp hC
  by_cases h0 : k = 0
  · subst h0
    rw [if_pos (.inl (by omega))]
    simp [fPC]
  have hlen : ((fBuildG p).take k).length = k := by rw [List.length_take]; omega
  have hne : (fBuildG p).take k ≠ [] := by intro e; rw [e] at hlen; simp at hlen; omega
  cases hB with
  | four h hv hs hb =>
    rw [hb] at hk hlen hne ⊢
    have hl := four_len h hp hs
    have hver : verOf ((fFour p).take k) = 4 := by rw [take_ver (by omega)]; exact four_ver h hp hs
    unfold fPC
    rw [if_neg hne, if_pos hver, hlen]
    by_cases h20 : k < 20
    · rw [if_pos h20, if_pos (.inl h20)]
    · rw [if_neg h20, if_neg (by rw [hv]; simp; omega)]
      have H := four_hdr h hp (by rw [four_size h hp]; omega)
      have : r4err ((fFour p).take k) = some 72 := by
        unfold r4err
        rw [if_pos]
        rw [num_take (by omega), H.size, hlen]
        omega
      rw [this]; rfl
  | six h hv hs hb =>
    rw [hb] at hk hlen hne ⊢
    have hl := six_len h hp hs
    have hver : verOf ((fSix p).take k) = 6 := by rw [take_ver (by omega)]; exact six_ver h hp hs
    unfold fPC
    rw [if_neg hne, if_neg (by rw [hver]; decide), if_pos hver, hlen]
    by_cases h40 : k < 40
    · rw [if_pos h40, if_pos (.inr ⟨hv, h40⟩)]
    · rw [if_neg h40, if_neg (by omega)]
      obtain ⟨q, _, _, hbb⟩ := six_bytes h hp hs
      have n4 : fNum ((fSix p).take k) (liLit 4) 2 = (((chain p p.exts).2.length : Nat) : Int) := by
        have e1 : fNum ((fSix p).take k) (liLit 4) 2 = (num ((fSix p).take k) 4 2 : Int) := fNum_eq _ 4 2 (by omega) (by omega)
        rw [e1, num_take (by omega)]
        have := num_at (b := fSix p) (pre := fPut ((six_w p : Nat) : Int) 4) (n := (chain p p.exts).2.length) (k := 2) (i := 4) hbb rfl (by omega) (by omega)
        rw [this]
      have : r6of ((fSix p).take k) = .bad 72 := by
        unfold r6of
        rw [n4, if_pos]
        unfold fShortBy
        rw [and_t]
        refine ⟨fits_iff.2 ⟨by decide, by rw [hlen]; show (40 : Int) ≤ _; omega⟩, ?_⟩
        have : lbLe (((chain p p.exts).2.length : Nat) : Int) (fLeft ((fSix p).take k) (liLit 40)) = false := by
          rw [lbLe_f]; show (((fSix p).take k).length : Int) - 40 < _
          rw [hlen]; omega
        rw [this]; simp
      unfold r6code; rw [this]
/-- two packets of one text are one -/
theorem apart {p q : Packet} (hp : p.pay.length ≤ 2 ^ 40) (hq : q.pay.length ≤ 2 ^ 40) (h1 : fBuildC p = 0) (h2 : fBuildC q = 0) (h : fBuildG p = fBuildG q) : p = q := by
  have a := (back hp h1 []).2.1
  have b := (back hq h2 []).2.1
  rw [h] at a
  exact a.symm.trans b
end Go.Adit
