/- Part of the proofs of the laws: lemmas and contracts, no statement of its own. -/
import Derived.Test.YtledohjnchnmhaaB6g
import Derived.Test.YtledohjnchnmhaaParseG
set_option linter.unusedVariables false
set_option linter.unusedSimpArgs false
namespace Go.Adit
open Go.RowKit Go.Proofs
set_option maxRecDepth 100000
theorem byteOf_toNat (n i : Nat) (hi : i ≤ 7) : (byteOf (n : Int) i).toNat = n / 2 ^ (8 * i) % 256 := by
  have e1 : liShr .u64 (n : Int) (liLit ((8 * i : Nat) : Int)) = ((n / 2 ^ (8 * i) : Nat) : Int) := by
    show Int.fdiv (n : Int) (2 ^ (min ((8 * i : Nat) : Int).toNat 64)) = _
    rw [show min ((8 * i : Nat) : Int).toNat 64 = 8 * i by omega]
    rw [show ((2 : Int) ^ (8 * i)) = ((2 ^ (8 * i) : Nat) : Int) by push_cast; rfl]
    rw [Int.fdiv_eq_ediv_of_nonneg _ (Int.natCast_nonneg _)]
    rfl
  have e2 : liConv .u8 ((n / 2 ^ (8 * i) : Nat) : Int) = ((n / 2 ^ (8 * i) % 256 : Nat) : Int) := by
    show IntKind.u8.wrap _ = _
    unfold IntKind.wrap
    have h1 : IntKind.bits .u8 = 8 := rfl
    simp only [IntKind.signed, h1]
    push_cast
    simp
  unfold byteOf
  rw [e1, e2]
  show (UInt8.ofNat (((n / 2 ^ (8 * i) % 256 : Nat) : Int)).toNat).toNat = _
  rw [Int.toNat_natCast, UInt8.toNat_ofNat']
  omega
theorem conv_u64 {n : Int} (h0 : 0 ≤ n) (h1 : n ≤ 9223372036854775807) : liConv .u64 n = n := by
  show IntKind.u64.wrap n = n
  unfold IntKind.wrap
  have h1 : IntKind.bits .u64 = 64 := rfl
  simp only [IntKind.signed, h1]
  simp only [Bool.false_and, Bool.false_eq_true, if_false]
  omega
/-- what a packet of version 4 is that may be -/
structure Four (p : Packet) : Prop where
  src : fValid p.src = true
  dst : fValid p.dst = true
  s4 : p.src.v6 = false
  d4 : p.dst.v6 = false
  proto : 0 ≤ p.proto ∧ p.proto ≤ 255
  hop : 0 ≤ p.hop ∧ p.hop ≤ 255
  cls : 0 ≤ p.cls ∧ p.cls ≤ 255
  off : 0 ≤ p.off ∧ p.off ≤ 65528
  off8 : p.off % 8 = 0
  id : 0 ≤ p.id ∧ p.id ≤ 65535
  o4 : p.opts.length % 4 = 0
  o40 : p.opts.length ≤ 40
  flow : p.flow = 0
  exts : p.exts = []
  cut : p.cut = false
theorem fUpto_t {n m : Int} (h : fUpto n m = true) : 0 ≤ n ∧ n ≤ m := by
  unfold fUpto at h
  rw [Bool.and_eq_true, decide_eq_true_eq, decide_eq_true_eq] at h; exact h
theorem four_of {p : Packet} (h : fRight p = true) (hv : p.src.v6 = false) : Four p := by
  unfold fRight at h
  rw [Bool.and_eq_true, hv] at h
  obtain ⟨h0, h4⟩ := h
  simp only [Bool.false_eq_true, if_false] at h4
  unfold fR0 at h0
  unfold fR4 at h4
  simp only [Bool.and_eq_true] at h0 h4
  obtain ⟨⟨⟨⟨⟨⟨⟨a1, a2⟩, a3⟩, a4⟩, a5⟩, a6⟩, a7⟩, a8⟩ := h0
  obtain ⟨⟨⟨⟨⟨b1, b2⟩, b3⟩, b4⟩, b5⟩, b6⟩ := h4
  have a7' := fUpto_t a7
  refine ⟨a1, a2, hv, ?_, fUpto_t a4, fUpto_t a5, fUpto_t a6, a7', ?_, fUpto_t b1, ?_, ?_, ?_, ?_, ?_⟩
  · rw [hv] at a3; unfold lbEqB at a3; simpa using a3
  · rw [lbEqI_t] at a8
    unfold liRem at a8
    rw [Int.tmod_eq_emod_of_nonneg a7'.1] at a8
    exact a8
  · rw [lbEqI_t] at b2
    unfold liRem at b2
    rw [Int.tmod_eq_emod_of_nonneg (by simp [liLen])] at b2
    have : ((p.opts.length : Int)) % 4 = 0 := b2
    omega
  · rw [lbLe_t] at b3
    have : ((p.opts.length : Int)) ≤ 40 := b3
    omega
  · rw [lbEqI_t] at b4; exact b4
  · rw [lbEqI_t] at b5
    have : ((p.exts.length : Int)) = 0 := b5
    exact List.length_eq_zero_iff.1 (by omega)
  · rw [lbNot_t] at b6; exact b6
theorem four_head {p : Packet} (h : Four p) : fHead p = ((20 + p.opts.length : Nat) : Int) := by
  have := h.o40
  unfold fHead
  rw [h.s4]
  simp only [Bool.false_eq_true, if_false]
  rw [show liLit 20 = (20 : Int) from rfl, show liLen p.opts = (p.opts.length : Int) from rfl, add64 (by omega) (by omega)]
  omega
theorem four_size {p : Packet} (h : Four p) (hp : p.pay.length ≤ 2 ^ 40) : fSz p = ((20 + p.opts.length + p.pay.length : Nat) : Int) := by
  have := h.o40
  unfold fSz
  rw [four_head h, show liLen p.pay = (p.pay.length : Int) from rfl, add64 (by omega) (by omega)]
  omega
theorem four_bytes {a : Addr} (h : fValid a = true) (h4 : a.v6 = false) : fBytes a = [a.b0, a.b1, a.b2, a.b3] := by
  unfold fBytes; rw [h4, h]; rfl
/-- the first ten bytes -/
theorem four_a {p : Packet} : fA4 p = [byteOf (liConv .u64 (liOr .i64 (liLit 64) (liQuo .i64 (fHead p) (liLit 4)))) 0, byteOf (liConv .u64 p.cls) 0,
    byteOf (liConv .u64 (fSz p)) 1, byteOf (liConv .u64 (fSz p)) 0, byteOf (liConv .u64 p.id) 1, byteOf (liConv .u64 p.id) 0,
    byteOf (liConv .u64 (liOr .i64 (liOr .i64 (liQuo .i64 p.off (liLit 8)) (fFlag p.more (liLit 8192))) (fFlag p.still (liLit 16384)))) 1, byteOf (liConv .u64 (liOr .i64 (liOr .i64 (liQuo .i64 p.off (liLit 8)) (fFlag p.more (liLit 8192))) (fFlag p.still (liLit 16384)))) 0,
    byteOf (liConv .u64 p.hop) 0, byteOf (liConv .u64 p.proto) 0] := rfl
theorem num1 (b : List UInt8) (i : Nat) (h : i + 1 ≤ b.length) : num b i 1 = (b.getD i 0).toNat := by
  unfold num
  rw [take_getD b i 1 h]
  simp [beNat, List.range_succ]
theorem num2 (b : List UInt8) (i : Nat) (h : i + 2 ≤ b.length) : num b i 2 = (b.getD i 0).toNat * 256 + (b.getD (i + 1) 0).toNat := by
  unfold num
  rw [take_getD b i 2 h]
  simp [beNat, List.range_succ]
theorem orHead (m : Nat) (h : m ≤ 15) : liOr .i64 (liLit 64) (m : Int) = ((64 + m : Nat) : Int) := by
  have : ∀ m : Fin 16, liOr .i64 (liLit 64) ((m.val : Nat) : Int) = ((64 + m.val : Nat) : Int) := by decide +kernel
  exact this ⟨m, by omega⟩
/-- what a header of version 4 says -/
structure Hdr (p : Packet) (b : List UInt8) : Prop where
  len : b.length = 20 + p.opts.length + p.pay.length
  b0 : (b.getD 0 0).toNat = 64 + (20 + p.opts.length) / 4
  size : num b 2 2 = b.length
  sum : r4sum b = num b 10 2
theorem byteOf_two (n : Nat) (h : n ≤ 65535) : (byteOf (n : Int) 1).toNat * 256 + (byteOf (n : Int) 0).toNat = n := by
  rw [byteOf_toNat n 1 (by omega), byteOf_toNat n 0 (by omega)]
  omega
theorem four_hdr {p : Packet} (h : Four p) (hp : p.pay.length ≤ 2 ^ 40) (hs : fSz p ≤ 65535) : Hdr p (fFour p) := by
  have hsz := four_size h hp
  have hh := four_head h
  have o40 := h.o40
  have o4 := h.o4
  have hlen : (fFour p).length = 20 + p.opts.length + p.pay.length := by
    simp only [fFour, lsCat, List.length_append, fPut_len, fEnds, four_bytes h.src h.s4, four_bytes h.dst h.d4, four_a, List.length_cons, List.length_nil]
  have hb : fFour p = fA4 p ++ (fPut (liConv .u64 (fSum4 p)) 2 ++ (fEnds p ++ (p.opts ++ p.pay))) := by
    simp only [fFour, lsCat, List.append_assoc]
  have hA : (fA4 p).length = 10 := by rw [four_a]; rfl
  have hE : (fEnds p).length = 8 := by simp only [fEnds, lsCat, four_bytes h.src h.s4, four_bytes h.dst h.d4]; rfl
  rw [hsz] at hs
  have hsl : 20 + p.opts.length + p.pay.length ≤ 65535 := by omega
  have g0 : ((fFour p).getD 0 0).toNat = 64 + (20 + p.opts.length) / 4 := by
    rw [hb, four_a, hh]
    rw [show liQuo .i64 ((20 + p.opts.length : Nat) : Int) (liLit 4) = (((20 + p.opts.length) / 4 : Nat) : Int) by
      show IntKind.i64.wrap (Int.tdiv _ 4) = _
      rw [Int.tdiv_eq_ediv_of_nonneg (by omega), wi64 (by omega) (by omega)]; omega]
    rw [orHead _ (by omega), conv_u64 (by omega) (by omega)]
    show (byteOf _ 0).toNat = _
    rw [byteOf_toNat _ 0 (by omega)]; omega
  have g2 : num (fFour p) 2 2 = (fFour p).length := by
    rw [num2 _ 2 (by omega), hlen]
    rw [hb, four_a, hsz, conv_u64 (n := ((20 + p.opts.length + p.pay.length : Nat) : Int)) (by omega) (by omega)]
    exact byteOf_two _ hsl
  have hr : r4h (fFour p) = 20 + p.opts.length := by
    unfold r4h
    rw [num1 _ 0 (by omega), g0]
    omega
  have hsum : r4sum (fFour p) = fSum4 p := by
    unfold r4sum fSum4 fSum
    rw [hr]
    have e1 : lsSub (fFour p) 0 10 = fA4 p := by
      show ((fFour p).take 10).drop 0 = _
      rw [List.drop_zero, hb, List.take_append_of_le_length (by omega), List.take_of_length_le (by omega)]
    have e2 : lsSub (fFour p) 12 ((20 + p.opts.length : Nat) : Int) = fEnds p ++ p.opts := by
      show ((fFour p).take (20 + p.opts.length)).drop 12 = _
      rw [hb, List.drop_take]
      rw [show fA4 p ++ (fPut (liConv .u64 (fSum4 p)) 2 ++ (fEnds p ++ (p.opts ++ p.pay))) = (fA4 p ++ fPut (liConv .u64 (fSum4 p)) 2) ++ ((fEnds p ++ p.opts) ++ p.pay) by simp only [List.append_assoc]]
      rw [List.drop_append_of_le_length (by simp only [List.length_append, fPut_len]; omega), List.drop_of_length_le (by simp only [List.length_append, fPut_len]; omega), List.nil_append]
      rw [List.take_append_of_le_length (by simp only [List.length_append]; omega), List.take_of_length_le (by simp only [List.length_append]; omega)]
    rw [e1, e2]
    simp only [ltLit, List.flatten_cons, List.flatten_nil, List.append_nil]
  have g10 : r4sum (fFour p) = num (fFour p) 10 2 := by
    rw [hsum, num2 _ 10 (by omega)]
    have hf := foldN_le (wordSum false [fA4 p, fEnds p, p.opts].flatten)
    have hS : fSum4 p = ((65535 - foldN (wordSum false [fA4 p, fEnds p, p.opts].flatten) : Nat) : Int) := by
      show (65535 : Int) - _ = _
      show (65535 : Int) - ((foldN (wordSum false [fA4 p, fEnds p, p.opts].flatten) : Nat) : Int) = _
      omega
    have e : ∀ i < 2, (fFour p).getD (10 + i) 0 = (fPut (liConv .u64 (fSum4 p)) 2).getD i 0 := by
      intro i hi
      rw [hb]
      simp only [List.getD_eq_getElem?_getD]
      rw [List.getElem?_append_right (by omega), hA, List.getElem?_append_left (by rw [fPut_len]; omega)]
      rw [show 10 + i - 10 = i by omega]
    have e0 := e 0 (by omega)
    have e1 := e 1 (by omega)
    rw [show 10 + 0 = 10 from rfl] at e0
    rw [show 10 + 1 = 11 from rfl] at e1
    rw [e0, e1, hS, conv_u64 (by omega) (by omega)]
    have := byteOf_two (65535 - foldN (wordSum false [fA4 p, fEnds p, p.opts].flatten)) (by omega)
    show _ = (((byteOf _ 1).toNat * 256 + (byteOf _ 0).toNat : Nat) : Int)
    omega
  exact ⟨hlen, g0, g2, g10⟩
end Go.Adit
