/- Part of the proofs of the laws: lemmas and contracts, no statement of its own. -/
import Derived.Test.YtledohjnchnmhaaPlain6
set_option linter.unusedVariables false
set_option linter.unusedSimpArgs false
namespace Go.Adit
open Go.RowKit Go.Proofs
set_option maxRecDepth 100000
set_option maxHeartbeats 2000000
/-- the bytes from i up to j -/
def seg (b : List UInt8) (i j : Nat) : List UInt8 := (b.drop i).take (j - i)
theorem seg_cat (b : List UInt8) {i j k : Nat} (h : i ≤ j) (h2 : j ≤ k) : seg b i j ++ seg b j k = seg b i k := by
  unfold seg
  have : b.drop j = (b.drop i).drop (j - i) := by rw [List.drop_drop]; congr 1; omega
  rw [this, show k - i = (j - i) + (k - j) by omega, ← List.take_append_drop (j - i) (((b.drop i).take ((j - i) + (k - j))))]
  rw [List.take_take, Nat.min_eq_left (by omega), List.drop_take, show j - i + (k - j) - (j - i) = k - j by omega]
theorem seg_cat' (b : List UInt8) {i j k : Nat} (r : List UInt8) (h : i ≤ j) (h2 : j ≤ k) : seg b i j ++ (seg b j k ++ r) = seg b i k ++ r := by
  rw [← List.append_assoc, seg_cat b h h2]
theorem seg_len (b : List UInt8) {i j : Nat} (h : i ≤ j) (h2 : j ≤ b.length) : (seg b i j).length = j - i := by
  unfold seg; rw [List.length_take, List.length_drop]; omega
theorem seg_zero (b : List UInt8) (j : Nat) : seg b 0 j = b.take j := by unfold seg; rw [List.drop_zero, Nat.sub_zero]
theorem seg_end (b : List UInt8) (i : Nat) : seg b i b.length = b.drop i := by
  unfold seg; exact List.take_of_length_le (by rw [List.length_drop]; omega)
theorem lsSub_seg (b : List UInt8) {i j : Nat} : lsSub b (i : Int) (j : Int) = seg b i j := by
  unfold lsSub seg
  rw [Int.toNat_natCast, Int.toNat_natCast, List.drop_take]
theorem fTake_seg (b : List UInt8) {i n : Nat} (h : i + n ≤ b.length) : fTake b (i : Int) (n : Int) = seg b i (i + n) := by
  rw [fTake_eq b i n h]; unfold seg; rw [Nat.add_sub_cancel_left]
theorem be_cons (y : UInt8) (t : List UInt8) : beNat (y :: t) = y.toNat * 256 ^ t.length + beNat t := by
  have key : ∀ (l : List UInt8) (n : Nat), l.foldl (fun s y => s * 256 + y.toNat) n = n * 256 ^ l.length + beNat l := by
    intro l
    induction l with
    | nil => intro n; simp [beNat]
    | cons z r ih =>
      intro n
      have e1 := ih (n * 256 + z.toNat)
      have e2 := ih z.toNat
      have e3 : beNat (z :: r) = r.foldl (fun s y => s * 256 + y.toNat) z.toNat := by simp [beNat]
      rw [e3, e2, List.foldl_cons, e1, List.length_cons, Nat.pow_succ, Nat.add_mul]
      rw [show n * 256 * 256 ^ r.length = n * (256 ^ r.length * 256) by rw [Nat.mul_assoc, Nat.mul_comm 256]]
      omega
  have e := key t y.toNat
  have e3 : beNat (y :: t) = t.foldl (fun s y => s * 256 + y.toNat) y.toNat := by simp [beNat]
  rw [e3, e]
theorem put_be : ∀ (l : List UInt8) (m : Nat), l.length ≤ 8 → fPut ((m * 256 ^ l.length + beNat l : Nat) : Int) l.length = l
  | [], _, _ => rfl
  | y :: t, m, h => by
    simp only [List.length_cons] at h
    have hb := beNat_lt t
    have e : m * 256 ^ (y :: t).length + beNat (y :: t) = (m * 256 + y.toNat) * 256 ^ t.length + beNat t := by
      rw [be_cons, List.length_cons, Nat.pow_succ, Nat.add_mul]
      rw [show m * 256 * 256 ^ t.length = m * (256 ^ t.length * 256) by rw [Nat.mul_assoc, Nat.mul_comm 256]]
      omega
    rw [e]
    show byteOf _ t.length :: fPut _ t.length = y :: t
    rw [put_be t (m * 256 + y.toNat) (by omega)]
    congr 1
    apply UInt8.toNat_inj.1
    rw [byteOf_toNat _ _ (by omega)]
    have e2 : 2 ^ (8 * t.length) = 256 ^ t.length := by rw [Nat.pow_mul]
    have hp : 0 < 256 ^ t.length := Nat.pow_pos (by omega)
    rw [e2, Nat.add_comm, Nat.add_mul_div_right _ _ hp, Nat.div_eq_of_lt hb]
    have := y.toNat_lt
    omega
theorem put_num (b : List UInt8) {i k : Nat} (h : i + k ≤ b.length) (hk : k ≤ 8) : fPut ((num b i k : Nat) : Int) k = seg b i (i + k) := by
  have hl : (seg b i (i + k)).length = k := by rw [seg_len b (by omega) h]; omega
  have e : num b i k = beNat (seg b i (i + k)) := by unfold num seg; rw [Nat.add_sub_cancel_left]
  have := put_be (seg b i (i + k)) 0 (by omega)
  rw [hl, Nat.zero_mul, Nat.zero_add] at this
  rw [e, this]
theorem takeB {n : Nat} (l : List UInt8) (h : l.length = n + 1) : ∃ x r, l = x :: r ∧ r.length = n :=
  match l, h with
  | x :: r, h => ⟨x, r, rfl, by simpa using h⟩
theorem bytes_from4 {l : List UInt8} (h : l.length = 4) : fBytes (fFrom l).1 = l ∧ fValid (fFrom l).1 = true ∧ (fFrom l).1.v6 = false := by
  obtain ⟨x0, l0, rfl, h0⟩ := takeB (n := 3) l h
  obtain ⟨x1, l1, rfl, h1⟩ := takeB (n := 2) l0 h0
  obtain ⟨x2, l2, rfl, h2⟩ := takeB (n := 1) l1 h1
  obtain ⟨x3, l3, rfl, h3⟩ := takeB (n := 0) l2 h2
  obtain rfl := List.length_eq_zero_iff.1 h3
  exact ⟨rfl, rfl, rfl⟩
theorem bytes_from16 {l : List UInt8} (h : l.length = 16) : fBytes (fFrom l).1 = l ∧ fValid (fFrom l).1 = true ∧ (fFrom l).1.v6 = true := by
  obtain ⟨x0, l0, rfl, g0⟩ := takeB (n := 15) l h
  obtain ⟨x1, l1, rfl, g1⟩ := takeB (n := 14) l0 g0
  obtain ⟨x2, l2, rfl, g2⟩ := takeB (n := 13) l1 g1
  obtain ⟨x3, l3, rfl, g3⟩ := takeB (n := 12) l2 g2
  obtain ⟨x4, l4, rfl, g4⟩ := takeB (n := 11) l3 g3
  obtain ⟨x5, l5, rfl, g5⟩ := takeB (n := 10) l4 g4
  obtain ⟨x6, l6, rfl, g6⟩ := takeB (n := 9) l5 g5
  obtain ⟨x7, l7, rfl, g7⟩ := takeB (n := 8) l6 g6
  obtain ⟨x8, l8, rfl, g8⟩ := takeB (n := 7) l7 g7
  obtain ⟨x9, l9, rfl, g9⟩ := takeB (n := 6) l8 g8
  obtain ⟨y0, m0, rfl, g10⟩ := takeB (n := 5) l9 g9
  obtain ⟨y1, m1, rfl, g11⟩ := takeB (n := 4) m0 g10
  obtain ⟨y2, m2, rfl, g12⟩ := takeB (n := 3) m1 g11
  obtain ⟨y3, m3, rfl, g13⟩ := takeB (n := 2) m2 g12
  obtain ⟨y4, m4, rfl, g14⟩ := takeB (n := 1) m3 g13
  obtain ⟨y5, m5, rfl, g15⟩ := takeB (n := 0) m4 g14
  obtain rfl := List.length_eq_zero_iff.1 g15
  exact ⟨rfl, rfl, rfl⟩
theorem addr_seg4 (b : List UInt8) {i : Nat} (h : i + 4 ≤ b.length) : fBytes (fAddrAt b (i : Int) 4) = seg b i (i + 4) ∧ fValid (fAddrAt b (i : Int) 4) = true ∧ (fAddrAt b (i : Int) 4).v6 = false := by
  unfold fAddrAt
  rw [show liLit ((4 : Nat) : Int) = ((4 : Nat) : Int) from rfl, fTake_seg b h]
  exact bytes_from4 (by rw [seg_len b (by omega) h]; omega)
theorem addr_seg16 (b : List UInt8) {i : Nat} (h : i + 16 ≤ b.length) : fBytes (fAddrAt b (i : Int) 16) = seg b i (i + 16) ∧ fValid (fAddrAt b (i : Int) 16) = true ∧ (fAddrAt b (i : Int) 16).v6 = true := by
  unfold fAddrAt
  rw [show liLit ((16 : Nat) : Int) = ((16 : Nat) : Int) from rfl, fTake_seg b h]
  exact bytes_from16 (by rw [seg_len b (by omega) h]; omega)
theorem upto_of {n m : Int} (h : 0 ≤ n ∧ n ≤ m) : fUpto n m = true := by
  unfold fUpto
  rw [Bool.and_eq_true, decide_eq_true_eq, decide_eq_true_eq]; exact h
theorem rem8_of {n : Int} (h0 : 0 ≤ n) (h : n % 8 = 0) : lbEqI (liRem n 8) 0 = true := by
  rw [lbEqI_t]; unfold liRem; rw [Int.tmod_eq_emod_of_nonneg h0]; exact h
theorem right_four {p : Packet} (h : Four p) : fRight p = true := by
  have ho := h.off
  unfold fRight
  rw [Bool.and_eq_true]
  refine ⟨?_, ?_⟩
  · unfold fR0
    simp only [Bool.and_eq_true]
    refine ⟨⟨⟨⟨⟨⟨⟨h.src, h.dst⟩, by rw [h.s4, h.d4]; rfl⟩, upto_of h.proto⟩, upto_of h.hop⟩, upto_of h.cls⟩, upto_of h.off⟩, rem8_of ho.1 h.off8⟩
  · rw [h.s4]
    simp only [Bool.false_eq_true, if_false]
    unfold fR4
    simp only [Bool.and_eq_true]
    refine ⟨⟨⟨⟨⟨upto_of h.id, ?_⟩, ?_⟩, ?_⟩, ?_⟩, ?_⟩
    · rw [lbEqI_t]; unfold liRem; rw [Int.tmod_eq_emod_of_nonneg (by simp [liLen])]
      have := h.o4
      show ((p.opts.length : Int)) % 4 = 0
      omega
    · rw [lbLe_t]; have := h.o40; show ((p.opts.length : Int)) ≤ 40; omega
    · rw [lbEqI_t]; exact h.flow
    · rw [lbEqI_t, h.exts]; rfl
    · rw [lbNot_t]; exact h.cut
theorem right_six {p : Packet} (h : Six p) : fRight p = true := by
  have ho := h.off
  unfold fRight
  rw [Bool.and_eq_true]
  refine ⟨?_, ?_⟩
  · unfold fR0
    simp only [Bool.and_eq_true]
    refine ⟨⟨⟨⟨⟨⟨⟨h.src, h.dst⟩, by rw [h.s6, h.d6]; rfl⟩, upto_of h.proto⟩, upto_of h.hop⟩, upto_of h.cls⟩, upto_of h.off⟩, rem8_of ho.1 h.off8⟩
  · rw [h.s6]
    simp only [if_true]
    rw [Bool.and_eq_true]
    refine ⟨h.exts, ?_⟩
    unfold fR6
    simp only [Bool.and_eq_true]
    refine ⟨⟨⟨⟨⟨⟨upto_of h.flow, ?_⟩, ?_⟩, ?_⟩, upto_of h.id⟩, ?_⟩, ?_⟩
    · rw [lbEqS_t]; exact h.opts
    · rw [lbNot_t]; exact h.still
    · rw [lbLe_t]; have := h.few; show ((p.exts.length : Int)) ≤ 4; omega
    · rw [lbNot_t]; exact h.spec
    · rw [Bool.or_eq_true]
      rcases h.whole with w | ⟨w1, w2, w3⟩
      · exact .inl w
      · refine .inr ?_
        simp only [Bool.and_eq_true]
        rw [lbEqI_t, lbEqI_t, lbNot_t]; exact ⟨⟨w1, w2⟩, w3⟩
/-- what was read of version 4 is what would have been built -/
theorem four_again {b : List UInt8} (hl : 20 ≤ b.length) (hv : verOf b = 4) (he : r4err b = none) :
    Four (r4pkt b) ∧ 20 + (r4pkt b).opts.length + (r4pkt b).pay.length = num b 2 2 ∧ num b 2 2 ≤ b.length ∧ num b 2 2 ≤ 65535 ∧ fFour (r4pkt b) = b.take (num b 2 2) := by
  unfold r4err at he
  split at he
  · cases he
  rename_i c1
  split at he
  · cases he
  rename_i c2
  split at he
  · cases he
  rename_i c3
  have c1 : 20 ≤ r4h b ∧ r4h b ≤ b.length ∧ r4h b ≤ num b 2 2 ∧ num b 2 2 ≤ b.length := Classical.byContradiction c1
  have c2 : r4sum b = num b 10 2 := Classical.byContradiction c2
  have hh : r4h b = num b 0 1 % 16 * 4 := rfl
  have l2 := num_lt b 2 2 (by omega)
  have l4 := num_lt b 4 2 (by omega)
  have l6 := num_lt b 6 2 (by omega)
  have l0 := num_lt b 0 1 (by omega)
  have l1 := num_lt b 1 1 (by omega)
  have l8 := num_lt b 8 1 (by omega)
  have l9 := num_lt b 9 1 (by omega)
  have l10 := num_lt b 10 2 (by omega)
  have hvn : num b 0 1 / 16 = 4 := by
    rw [verOf_nat] at hv
    rw [num1 b 0 (by omega)]; omega
  obtain ⟨a1, a2, a3⟩ := addr_seg4 b (i := 12) (by omega)
  obtain ⟨d1, d2, d3⟩ := addr_seg4 b (i := 16) (by omega)
  have eo : lsSub b 20 (r4h b : Int) = seg b 20 (r4h b) := lsSub_seg (i := 20) b
  have ep : lsSub b (r4h b : Int) (num b 2 2 : Int) = seg b (r4h b) (num b 2 2) := lsSub_seg b
  generalize hw : num b 6 2 = w at *
  have c7 : liMul .i64 (liAnd .i64 (w : Int) 8191) 8 = ((w % 8192 * 8 : Nat) : Int) := by
    have e1 : w &&& 8191 = w % 8192 := and_mask63 w 13
    have e2 : liAnd .i64 (w : Int) 8191 = ((w % 8192 : Nat) : Int) := by rw [← e1]; exact and_nat (a := w) (b := 8191) (by omega) (by omega)
    rw [e2]; exact mul_nat (w % 8192) 8 (by omega)
  have c8 : lbNot (lbEqI (liAnd .i64 (w : Int) 8192) 0) = decide (w / 8192 % 2 = 1) := by
    have e1 : w &&& 8192 = 8192 * (w / 8192 % 2) := and_bit w 13
    have e2 : liAnd .i64 (w : Int) 8192 = ((8192 * (w / 8192 % 2) : Nat) : Int) := by rw [← e1]; exact and_nat (a := w) (b := 8192) (by omega) (by omega)
    rw [e2]
    rcases Nat.mod_two_eq_zero_or_one (w / 8192) with h | h <;> rw [h] <;> rfl
  have c9 : lbNot (lbEqI (liAnd .i64 (w : Int) 16384) 0) = decide (w / 16384 % 2 = 1) := by
    have e1 : w &&& 16384 = 16384 * (w / 16384 % 2) := and_bit w 14
    have e2 : liAnd .i64 (w : Int) 16384 = ((16384 * (w / 16384 % 2) : Nat) : Int) := by rw [← e1]; exact and_nat (a := w) (b := 16384) (by omega) (by omega)
    rw [e2]
    rcases Nat.mod_two_eq_zero_or_one (w / 16384) with h | h <;> rw [h] <;> rfl
  have hp : r4pkt b = ⟨fAddrAt b 12 4, fAddrAt b 16 4, num b 9 1, num b 8 1, num b 1 1, num b 4 2, ((w % 8192 * 8 : Nat) : Int), decide (w / 8192 % 2 = 1), decide (w / 16384 % 2 = 1), seg b 20 (r4h b), 0, [], false, seg b (r4h b) (num b 2 2)⟩ := by
    unfold r4pkt
    rw [hw, c7, c8, c9, eo, ep]
  have lo : (seg b 20 (r4h b)).length = r4h b - 20 := seg_len b c1.1 c1.2.1
  have lp : (seg b (r4h b) (num b 2 2)).length = num b 2 2 - r4h b := seg_len b c1.2.2.1 c1.2.2.2
  have F : Four (r4pkt b) := by
    rw [hp]
    exact ⟨a2, d2, a3, d3, ⟨by show (0 : Int) ≤ (num b 9 1 : Int); omega, by show (num b 9 1 : Int) ≤ 255; omega⟩, ⟨by show (0 : Int) ≤ (num b 8 1 : Int); omega, by show (num b 8 1 : Int) ≤ 255; omega⟩, ⟨by show (0 : Int) ≤ (num b 1 1 : Int); omega, by show (num b 1 1 : Int) ≤ 255; omega⟩,
      ⟨by show (0 : Int) ≤ ((w % 8192 * 8 : Nat) : Int); omega, by show ((w % 8192 * 8 : Nat) : Int) ≤ 65528; omega⟩, by show ((w % 8192 * 8 : Nat) : Int) % 8 = 0; omega, ⟨by show (0 : Int) ≤ (num b 4 2 : Int); omega, by show (num b 4 2 : Int) ≤ 65535; omega⟩,
      by show (seg b 20 (r4h b)).length % 4 = 0; omega, by show (seg b 20 (r4h b)).length ≤ 40; omega, rfl, rfl, rfl⟩
  have hsz : 20 + (r4pkt b).opts.length + (r4pkt b).pay.length = num b 2 2 := by
    rw [hp]; show 20 + (seg b 20 (r4h b)).length + (seg b (r4h b) (num b 2 2)).length = _
    omega
  refine ⟨F, hsz, c1.2.2.2, by omega, ?_⟩
  obtain ⟨m, s, w', hm, hw', hs2, hS, hA, hb⟩ := four_laid F (by omega) (by omega)
  rw [hsz] at hA hb
  have pcls : (r4pkt b).cls.toNat = num b 1 1 := by rw [hp]; rfl
  have pid : (r4pkt b).id.toNat = num b 4 2 := by rw [hp]; rfl
  have phop : (r4pkt b).hop.toNat = num b 8 1 := by rw [hp]; rfl
  have pproto : (r4pkt b).proto.toNat = num b 9 1 := by rw [hp]; rfl
  have psrc : fBytes (r4pkt b).src = seg b 12 16 := by rw [hp]; exact a1
  have pdst : fBytes (r4pkt b).dst = seg b 16 20 := by rw [hp]; exact d1
  have popts : (r4pkt b).opts = seg b 20 (r4h b) := by rw [hp]
  have ppay : (r4pkt b).pay = seg b (r4h b) (num b 2 2) := by rw [hp]
  have ew : w' = w := by
    rw [hw', hp]
    show (((w % 8192 * 8 : Nat) : Int)).toNat / 8 + (if decide (w / 8192 % 2 = 1) = true then 8192 else 0) + (if decide (w / 16384 % 2 = 1) = true then 16384 else 0) = w
    simp only [decide_eq_true_eq]
    split <;> split <;> omega
  have em : m = num b 0 1 := by rw [hm, popts, lo]; omega
  rw [em, pcls, pid, ew, phop, pproto] at hA hb
  rw [put_num b (i := 0) (by omega) (by omega), put_num b (i := 1) (by omega) (by omega), put_num b (i := 2) (by omega) (by omega), put_num b (i := 4) (by omega) (by omega), ← hw, put_num b (i := 6) (by omega) (by omega), put_num b (i := 8) (by omega) (by omega), put_num b (i := 9) (by omega) (by omega)] at hA hb
  have hA2 : fA4 (r4pkt b) = seg b 0 10 := by
    rw [hA]
    rw [seg_cat b (by omega) (by omega), seg_cat b (by omega) (by omega), seg_cat b (by omega) (by omega), seg_cat b (by omega) (by omega), seg_cat b (by omega) (by omega), seg_cat b (by omega) (by omega)]
  have es : s = num b 10 2 := by
    have e1 : fSum4 (r4pkt b) = r4sum b := by
      unfold fSum4 r4sum fSum
      have x1 : lsSub b 0 10 = seg b 0 10 := lsSub_seg (i := 0) (j := 10) b
      have x2 : lsSub b 12 (r4h b : Int) = seg b 12 (r4h b) := lsSub_seg (i := 12) b
      rw [x1, x2, hA2, show fEnds (r4pkt b) = seg b 12 20 by unfold fEnds lsCat; rw [psrc, pdst, seg_cat b (by omega) (by omega)], popts]
      simp only [ltLit, List.flatten_cons, List.flatten_nil, List.append_nil]
      rw [seg_cat b (i := 12) (j := 20) (by omega) c1.1]
    rw [hS, c2] at e1
    omega
  rw [es, put_num b (i := 10) (by omega) (by omega), psrc, pdst, popts, ppay] at hb
  rw [hb, ← seg_zero]
  rw [seg_cat b (i := 20) c1.1 c1.2.2.1, seg_cat b (i := 16) (by omega) (by omega), seg_cat b (i := 12) (by omega) (by omega), seg_cat b (i := 10) (by omega) (by omega), seg_cat b (i := 9) (by omega) (by omega), seg_cat b (i := 8) (by omega) (by omega), seg_cat b (i := 6) (by omega) (by omega), seg_cat b (i := 4) (by omega) (by omega), seg_cat b (i := 2) (by omega) (by omega), seg_cat b (i := 1) (by omega) (by omega), seg_cat b (i := 0) (by omega) (by omega)]
end Go.Adit

namespace Go.Adit
open Go.RowKit Go.Proofs
set_option maxRecDepth 100000
set_option maxHeartbeats 2000000
/-- what the reading of version 6 makes of its last header -/
structure FinOk (hd p : Packet) : Prop where
  src : p.src = hd.src
  dst : p.dst = hd.dst
  hop : p.hop = hd.hop
  cls : p.cls = hd.cls
  flow : p.flow = hd.flow
  opts : p.opts = []
  still : p.still = false
  proto : 0 ≤ p.proto ∧ p.proto ≤ 255
  spec : fSpecial p.proto = false
  off : 0 ≤ p.off ∧ p.off ≤ 65528
  off8 : p.off % 8 = 0
  id : 0 ≤ p.id ∧ p.id ≤ 4294967295
  whole : p.cut = true ∨ (p.id = 0 ∧ p.off = 0 ∧ p.more = false)
theorem fNum_nat {b : List UInt8} {i k : Nat} (h : i + k ≤ b.length) (hk : k ≤ 4) : fNum b (i : Int) k = (num b i k : Int) := fNum_eq b i k h hk
theorem frag_of {p : Packet} {n w i : Nat} (hn : p.proto = (n : Int)) (hi : p.id = (i : Int)) (hw : w < 65536) (h : liOr .i64 p.off (fFlag p.more (liLit 1)) = (w : Int)) (hn2 : n < 256) (hi2 : i < 4294967296) :
    frag p = fPut (n : Int) 1 ++ (fPut ((0 : Nat) : Int) 1 ++ (fPut (w : Int) 2 ++ fPut (i : Int) 4)) := by
  unfold frag
  rw [h, hn, hi, conv_u64 (n := (n : Int)) (by omega) (by omega), conv_u64 (n := (i : Int)) (by omega) (by omega), conv_u64 (n := liLit 0) (by decide) (by decide), conv_u64 (n := (w : Int)) (by omega) (by omega)]
  simp only [lsCat, List.append_assoc]
  rfl
theorem fin_again (hd : Packet) (x : List UInt8) (k a : Nat) (l : List Ext) (p : Packet) (ha : a ≤ x.length) (hk : k < 256) (hx : isExtK (k : Int) = false) (h : r6fin hd (k : Int) l x (a : Int) = .good p) :
    p.exts = l ∧ (chain p []).1 = (k : Int) ∧ (chain p []).2 = x.drop a ∧ FinOk hd p := by
  unfold isExtK at hx
  simp only [Bool.or_eq_false_iff, lbEqI_f] at hx
  unfold r6fin at h
  by_cases h44 : k = 44
  · subst h44
    rw [if_pos (by decide)] at h
    split at h
    · cases h
    rename_i hl
    rw [left_nat] at hl
    have hl8 : a + 8 ≤ x.length := by omega
    split at h
    · cases h
    rename_i hz
    split at h
    · cases h
    rename_i hw6
    split at h
    · cases h
    rename_i hs
    cases h
    have a1 : fAdv (a : Int) (liLit 1) = ((a + 1 : Nat) : Int) := by show (a : Int) + 1 = _; omega
    have a2 : adv2 (a : Int) = ((a + 2 : Nat) : Int) := by show (a : Int) + 1 + 1 = _; omega
    have a4 : adv4 (a : Int) = ((a + 4 : Nat) : Int) := by show (a : Int) + 1 + 1 + 2 = _; omega
    have a8 : adv8 (a : Int) = ((a + 8 : Nat) : Int) := by show (a : Int) + 1 + 1 + 2 + 4 = _; omega
    have n0 : fNum x (a : Int) 1 = (num x a 1 : Int) := fNum_nat (by omega) (by omega)
    have n1 : fNum x (fAdv (a : Int) (liLit 1)) 1 = (num x (a + 1) 1 : Int) := by rw [a1]; exact fNum_nat (by omega) (by omega)
    have n2 : fNum x (adv2 (a : Int)) 2 = (num x (a + 2) 2 : Int) := by rw [a2]; exact fNum_nat (by omega) (by omega)
    have n4 : fNum x (adv4 (a : Int)) 4 = (num x (a + 4) 4 : Int) := by rw [a4]; exact fNum_nat (by omega) (by omega)
    have b0 := num_lt x a 1 (by omega)
    have b2 := num_lt x (a + 2) 2 (by omega)
    have b4 := num_lt x (a + 4) 4 (by omega)
    have hz0 : num x (a + 1) 1 = 0 := by
      rw [n1, Bool.not_eq_false, lbEqI_t] at hz
      have : (num x (a + 1) 1 : Int) = 0 := hz
      omega
    generalize hW : num x (a + 2) 2 = w at *
    have hw : w / 2 % 4 = 0 := by
      rw [n2, Bool.not_eq_false, lbEqI_t, show liLit 6 = ((6 : Nat) : Int) from rfl, and_nat (by omega) (by omega), and_six] at hw6
      have : ((2 * (w / 2 % 4) : Nat) : Int) = 0 := hw6
      omega
    have pay : fTake x (adv8 (a : Int)) (fLeft x (adv8 (a : Int))) = x.drop (a + 8) := by
      rw [a8, left_nat, show (x.length : Int) - ((a + 8 : Nat) : Int) = ((x.length - (a + 8) : Nat) : Int) by omega, fTake_eq _ _ _ (by omega)]
      exact List.take_of_length_le (by rw [List.length_drop]; omega)
    have c7 : liAndNot .i64 (w : Int) (liLit 7) = ((w - w % 8 : Nat) : Int) := andnot7 w (by omega)
    have c1 : lbEqI (liAnd .i64 (w : Int) (liLit 1)) (liLit 1) = decide (w % 2 = 1) := by
      have e1 : w &&& 1 = w % 2 := and_mask63 w 1
      rw [show liLit 1 = ((1 : Nat) : Int) from rfl, and_nat (by omega) (by omega), e1]
      rcases Nat.mod_two_eq_zero_or_one w with h | h <;> rw [h] <;> rfl
    have hq : r6cut hd l x (a : Int) = ⟨hd.src, hd.dst, (num x a 1 : Int), hd.hop, hd.cls, (num x (a + 4) 4 : Int), ((w - w % 8 : Nat) : Int), decide (w % 2 = 1), false, [], hd.flow, l, true, x.drop (a + 8)⟩ := by
      unfold r6cut
      rw [n0, n2, n4, pay, c7, c1]
    rw [n0] at hs
    have hs' : fSpecial (num x a 1 : Int) = false := by simpa using hs
    rw [hq]
    refine ⟨rfl, rfl, ?_, ⟨rfl, rfl, rfl, rfl, rfl, rfl, rfl, ⟨by show (0 : Int) ≤ (num x a 1 : Int); omega, by show (num x a 1 : Int) ≤ 255; omega⟩, hs', ⟨by show (0 : Int) ≤ ((w - w % 8 : Nat) : Int); omega, by show ((w - w % 8 : Nat) : Int) ≤ 65528; omega⟩, by show ((w - w % 8 : Nat) : Int) % 8 = 0; omega, ⟨by show (0 : Int) ≤ (num x (a + 4) 4 : Int); omega, by show (num x (a + 4) 4 : Int) ≤ 4294967295; omega⟩, .inl rfl⟩⟩
    have hor : liOr .i64 ((w - w % 8 : Nat) : Int) (fFlag (decide (w % 2 = 1)) (liLit 1)) = (w : Int) := by
      have hq : w - w % 8 = 2 ^ 3 * (w / 8) := by omega
      by_cases hm : w % 2 = 1
      · rw [show decide (w % 2 = 1) = true from decide_eq_true hm]
        show liOr .i64 ((w - w % 8 : Nat) : Int) ((1 : Nat) : Int) = _
        rw [or_nat (by omega) (by omega), hq, or_add (by omega)]
        omega
      · rw [show decide (w % 2 = 1) = false from decide_eq_false hm]
        show liOr .i64 ((w - w % 8 : Nat) : Int) ((0 : Nat) : Int) = _
        rw [or_nat (by omega) (by omega), Nat.or_zero]
        omega
    have hf := frag_of (p := (⟨hd.src, hd.dst, (num x a 1 : Int), hd.hop, hd.cls, (num x (a + 4) 4 : Int), ((w - w % 8 : Nat) : Int), decide (w % 2 = 1), false, [], hd.flow, l, true, x.drop (a + 8)⟩ : Packet)) (n := num x a 1) (w := w) (i := num x (a + 4) 4) rfl rfl (by omega) hor (by omega) (by omega)
    show lsCat (frag _) (x.drop (a + 8)) = _
    rw [hf, ← hz0, ← hW]
    rw [put_num x (i := a) (by omega) (by omega), put_num x (i := a + 1) (by omega) (by omega), put_num x (i := a + 2) (by omega) (by omega), put_num x (i := a + 4) (by omega) (by omega), ← seg_end, ← seg_end]
    simp only [lsCat, List.append_assoc]
    rw [seg_cat x (i := a + 4) (j := a + 4 + 4) (by omega) (by omega), seg_cat x (i := a + 2) (j := a + 2 + 2) (by omega) (by omega), seg_cat x (i := a + 1) (j := a + 1 + 1) (by omega) (by omega), seg_cat x (i := a) (j := a + 1) (by omega) (by omega)]
  · rw [if_neg (by rw [lbEqI_t]; show ¬ (k : Int) = 44; omega)] at h
    cases h
    have pay : fTake x (a : Int) (fLeft x (a : Int)) = x.drop a := by
      rw [left_nat, show (x.length : Int) - (a : Int) = ((x.length - a : Nat) : Int) by omega, fTake_eq _ _ _ (by omega)]
      exact List.take_of_length_le (by rw [List.length_drop]; omega)
    refine ⟨rfl, rfl, pay, ⟨rfl, rfl, rfl, rfl, rfl, rfl, rfl, ⟨by show (0 : Int) ≤ (k : Int); omega, by show (k : Int) ≤ 255; omega⟩, ?_, ⟨Int.le_refl _, by show (0 : Int) ≤ 65528; omega⟩, rfl, ⟨Int.le_refl _, by show (0 : Int) ≤ 4294967295; omega⟩, .inr ⟨rfl, rfl, rfl⟩⟩⟩
    show fSpecial (k : Int) = false
    have h1 : (k : Int) ≠ 0 := hx.1.1
    have h2 : (k : Int) ≠ 43 := hx.1.2
    have h3 : (k : Int) ≠ 60 := hx.2
    have h4 : (k : Int) ≠ 44 := by omega
    have h0 : k ≠ 0 := by omega
    simp [fSpecial, h0, h1, h2, h3, h4]
theorem loop_again (hd : Packet) (x : List UInt8) : ∀ (n k a : Nat) (l : List Ext) (p : Packet), n + l.length = 4 → a ≤ x.length → k < 256 → r6loop hd x n (k : Int) l (a : Int) = .good p →
    ∃ es, p.exts = l ++ es ∧ es.length ≤ n ∧ fExts l.length es = true ∧ (chain p es).1 = (k : Int) ∧ (chain p es).2 = x.drop a ∧ FinOk hd p := by
  intro n
  induction n with
  | zero =>
    intro k a l p hn ha hk h
    cases hx : isExtK (k : Int) with
    | true => rw [r6_0, if_pos hx] at h; cases h
    | false =>
      rw [r6_ne hx] at h
      obtain ⟨e1, e2, e3, e4⟩ := fin_again hd x k a l p ha hk hx h
      exact ⟨[], by rw [List.append_nil]; exact e1, Nat.le_refl _, rfl, e2, e3, e4⟩
  | succ n ih =>
    intro k a l p hn ha hk h
    cases hx : isExtK (k : Int) with
    | false =>
      rw [r6_ne hx] at h
      obtain ⟨e1, e2, e3, e4⟩ := fin_again hd x k a l p ha hk hx h
      exact ⟨[], by rw [List.append_nil]; exact e1, Nat.zero_le _, rfl, e2, e3, e4⟩
    | true =>
      rw [r6_s, if_pos hx] at h
      split at h
      · cases h
      rename_i c0
      split at h
      · cases h
      rename_i c8
      split at h
      · cases h
      rename_i cs
      rw [left_nat] at c8
      have a1 : fAdv (a : Int) (liLit 1) = ((a + 1 : Nat) : Int) := by show (a : Int) + 1 = _; omega
      have a2 : adv2 (a : Int) = ((a + 2 : Nat) : Int) := by show (a : Int) + 1 + 1 = _; omega
      have n0 : fNum x (a : Int) 1 = (num x a 1 : Int) := fNum_nat (by omega) (by omega)
      have n1 : fNum x (fAdv (a : Int) (liLit 1)) 1 = (num x (a + 1) 1 : Int) := by rw [a1]; exact fNum_nat (by omega) (by omega)
      have b0 := num_lt x a 1 (by omega)
      have b1 := num_lt x (a + 1) 1 (by omega)
      have hN : extN x (a : Int) = ((num x (a + 1) 1 * 8 + 6 : Nat) : Int) := by
        unfold extN
        rw [n1, show liLit 8 = ((8 : Nat) : Int) from rfl, mul_nat _ _ (by omega), show liLit 6 = ((6 : Nat) : Int) from rfl, add_nat _ _ (by omega)]
      generalize hq : num x (a + 1) 1 = q at *
      rw [hN, a2] at cs h
      have hf2 : fFits x ((a + 2 : Nat) : Int) = true := fits_iff.2 ⟨by omega, by omega⟩
      have hle : a + 2 + (q * 8 + 6) ≤ x.length := by
        have cs' : fShortBy x ((a + 2 : Nat) : Int) ((q * 8 + 6 : Nat) : Int) = false := by simpa using cs
        have := (short_fits hf2 cs').2
        rw [left_nat] at this; omega
      have a3 : fAdv ((a + 2 : Nat) : Int) ((q * 8 + 6 : Nat) : Int) = ((a + 2 + (q * 8 + 6) : Nat) : Int) := by show ((a + 2 : Nat) : Int) + ((q * 8 + 6 : Nat) : Int) = _; omega
      rw [fTake_seg x hle, n0, a3] at h
      have lb : (seg x (a + 2) (a + 2 + (q * 8 + 6))).length = q * 8 + 6 := by rw [seg_len x (by omega) hle]; omega
      obtain ⟨es, e1, e2, e3, e4, e5, e6⟩ := ih (num x a 1) (a + 2 + (q * 8 + 6)) (l ++ [⟨(k : Int), seg x (a + 2) (a + 2 + (q * 8 + 6))⟩]) p (by simp; omega) hle (by omega) h
      have hX : XOk ⟨(k : Int), seg x (a + 2) (a + 2 + (q * 8 + 6))⟩ l.length := by
        refine ⟨?_, by show (seg x _ _).length % 8 = 6; omega, by show (seg x _ _).length ≤ 2046; omega⟩
        show ((k : Int) = 0 ∧ l.length = 0) ∨ (k : Int) = 43 ∨ (k : Int) = 60
        unfold isExtK at hx
        simp only [Bool.or_eq_true, lbEqI_t] at hx
        rcases hx with (hx | hx) | hx
        · refine .inl ⟨hx, ?_⟩
          have : ¬ l ≠ [] := fun hne => c0 ⟨hx, hne⟩
          have : l = [] := Classical.byContradiction this
          rw [this]; rfl
        · exact .inr (.inl hx)
        · exact .inr (.inr hx)
      refine ⟨⟨(k : Int), seg x (a + 2) (a + 2 + (q * 8 + 6))⟩ :: es, ?_, by simp; omega, ?_, rfl, ?_, e6⟩
      · rw [e1]; simp
      · unfold fExts
        rw [Bool.and_eq_true]
        refine ⟨fExt_of hX, ?_⟩
        simpa using e3
      · show lsCat (ext1 (chain p es).1 _) (chain p es).2 = _
        rw [e4, e5, ext1_eq b0 hX]
        show (fPut (num x a 1 : Int) 1 ++ (fPut (((seg x (a + 2) (a + 2 + (q * 8 + 6))).length / 8 : Nat) : Int) 1 ++ seg x (a + 2) (a + 2 + (q * 8 + 6)))) ++ x.drop (a + 2 + (q * 8 + 6)) = _
        rw [lb, show (q * 8 + 6) / 8 = num x (a + 1) 1 by omega, put_num x (i := a) (by omega) (by omega), put_num x (i := a + 1) (by omega) (by omega), ← seg_end, ← seg_end]
        simp only [List.append_assoc]
        rw [seg_cat x (i := a + 2) (by omega) hle, seg_cat x (i := a + 1) (by omega) (by omega), seg_cat x (i := a) (by omega) (by omega)]
/-- what was read of version 6 is what would have been built -/
theorem six_again {b : List UInt8} (hl : 40 ≤ b.length) (hv : verOf b = 6) {p : Packet} (h : r6of b = .good p) :
    Six p ∧ (chain p p.exts).2.length ≤ 65535 ∧ 40 + (chain p p.exts).2.length ≤ b.length ∧ fSix p = b.take (40 + (chain p p.exts).2.length) := by
  unfold r6of at h
  split at h
  · cases h
  rename_i cs
  have n0 : fNum b (liLit 0) 4 = (num b 0 4 : Int) := fNum_nat (i := 0) (by omega) (by omega)
  have n4 : fNum b (liLit 4) 2 = (num b 4 2 : Int) := fNum_nat (i := 4) (by omega) (by omega)
  have n6 : fNum b (liLit 6) 1 = (num b 6 1 : Int) := fNum_nat (i := 6) (by omega) (by omega)
  have n7 : fNum b (liLit 7) 1 = (num b 7 1 : Int) := fNum_nat (i := 7) (by omega) (by omega)
  have b0 := num_lt b 0 4 (by omega)
  have b4 := num_lt b 4 2 (by omega)
  have b6 := num_lt b 6 1 (by omega)
  have b7 := num_lt b 7 1 (by omega)
  rw [n4] at cs
  generalize hS : num b 4 2 = S at *
  have hle : 40 + S ≤ b.length := by
    have cs' : fShortBy b ((40 : Nat) : Int) (S : Int) = false := (Bool.not_eq_true _).mp cs
    have := (short_fits (fits_iff.2 ⟨by omega, by omega⟩) cs').2
    rw [left_nat] at this; omega
  have hX : r6x b = seg b 40 (40 + S) := by
    unfold r6x; rw [n4]; exact fTake_seg (i := 40) b hle
  have lX : (r6x b).length = S := by rw [hX, seg_len b (by omega) hle]; omega
  rw [n6] at h
  obtain ⟨es, e1, e2, e3, e4, e5, e6⟩ := loop_again (r6hd b) (r6x b) 4 (num b 6 1) 0 [] p rfl (Nat.zero_le _) (by omega) h
  rw [List.nil_append] at e1
  subst e1
  rw [List.drop_zero] at e5
  obtain ⟨s1, s2, s3⟩ := addr_seg16 b (i := 8) (by omega)
  obtain ⟨t1, t2, t3⟩ := addr_seg16 b (i := 24) (by omega)
  generalize hw : num b 0 4 = w at *
  have hwv : w / 2 ^ 28 = 6 := by
    rw [verOf_nat] at hv
    have hc : num b 0 4 = (b.getD 0 0).toNat * 256 ^ 3 + num b 1 3 := by
      cases b with
      | nil => simp at hl
      | cons y t =>
        have hlt : 3 ≤ t.length := by simp at hl; omega
        have e : num (y :: t) 0 4 = beNat (y :: t.take 3) := rfl
        rw [e, be_cons, List.length_take, Nat.min_eq_left hlt]; rfl
    have h3 := num_lt b 1 3 (by omega)
    have := (b.getD 0 0).toNat_lt
    rw [← hw, hc]; omega
  have hcls : (r6hd b).cls = ((w / 2 ^ 20 % 256 : Nat) : Int) := by
    show liAnd .i64 (liShr .i64 (fNum b (liLit 0) 4) (liLit 20)) (liLit 255) = _
    rw [n0, show liLit 20 = liLit ((20 : Nat) : Int) from rfl, shr_nat (by omega), show liLit 255 = ((255 : Nat) : Int) from rfl, and_nat (by omega) (by omega)]
    have e1 : ∀ n, n &&& 255 = n % 256 := fun n => and_mask63 n 8
    rw [e1]
  have hflow : (r6hd b).flow = ((w % 2 ^ 20 : Nat) : Int) := by
    show liAnd .i64 (fNum b (liLit 0) 4) (liLit 1048575) = _
    rw [n0, show liLit 1048575 = ((1048575 : Nat) : Int) from rfl, and_nat (by omega) (by omega)]
    have e1 : ∀ n, n &&& 1048575 = n % 2 ^ 20 := fun n => and_mask63 n 20
    rw [e1]
  have hhop : (r6hd b).hop = (num b 7 1 : Int) := n7
  have hsrc : (r6hd b).src = fAddrAt b ((8 : Nat) : Int) 16 := rfl
  have hdst : (r6hd b).dst = fAddrAt b ((24 : Nat) : Int) 16 := rfl
  have F : Six p := ⟨by rw [e6.src, hsrc]; exact s2, by rw [e6.dst, hdst]; exact t2, by rw [e6.src, hsrc]; exact s3, by rw [e6.dst, hdst]; exact t3, e6.proto, by rw [e6.hop, hhop]; omega, by rw [e6.cls, hcls]; omega, e6.off, e6.off8, e6.id, by rw [e6.flow, hflow]; omega, e6.opts, e6.still, e2, e3, e6.spec, e6.whole⟩
  rw [e5, lX]
  refine ⟨F, by omega, hle, ?_⟩
  have cap : p.pay.length ≤ 2 ^ 40 := by
    have h1 := chain_len F 0 p.exts F.exts
    have h2 := rest0_len F
    rw [e5, lX] at h1
    omega
  obtain ⟨k, hk, hk2, hb⟩ := six_bytes F cap (by rw [e5, lX]; omega)
  rw [e5, lX] at hb
  have ek : k = num b 6 1 := by rw [e4] at hk; omega
  have ew : six_w p = num b 0 4 := by
    unfold six_w
    rw [e6.cls, hcls, e6.flow, hflow, hw, Int.toNat_natCast, Int.toNat_natCast]; omega
  have eh : p.hop.toNat = num b 7 1 := by rw [e6.hop, hhop]; rfl
  have es : fBytes p.src = seg b 8 24 := by rw [e6.src, hsrc]; exact s1
  have ed : fBytes p.dst = seg b 24 40 := by rw [e6.dst, hdst]; exact t1
  rw [hb, ew, ek, eh, es, ed, hX, ← hS, put_num b (i := 0) (by omega) (by omega), put_num b (i := 4) (by omega) (by omega), put_num b (i := 6) (by omega) (by omega), put_num b (i := 7) (by omega) (by omega), hS, ← seg_zero]
  rw [seg_cat b (i := 24) (by omega) (by omega), seg_cat b (i := 8) (by omega) (by omega), seg_cat b (i := 7) (by omega) (by omega), seg_cat b (i := 6) (by omega) (by omega), seg_cat b (i := 4) (by omega) (by omega), seg_cat b (i := 0) (by omega) (by omega)]
end Go.Adit
