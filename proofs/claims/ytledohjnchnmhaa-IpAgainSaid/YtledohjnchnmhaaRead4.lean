/- Part of the proofs of the laws: lemmas and contracts, no statement of its own. -/
import Derived.Test.YtledohjnchnmhaaSum2
set_option linter.unusedVariables false
set_option linter.unusedSimpArgs false
namespace Go.Adit
open Go.RowKit Go.Proofs
set_option maxRecDepth 100000
def tr76 (b : List UInt8) : Tr := (.ite (fShortBy b (liLit 0) (liLit 1))
 (.req [(fFits b (liLit 0))]
  (.die (72)))
 (.req [(fFits b (liLit 0))]
  (.ite (fShortBy b (liLit 1) (liLit 1))
   (.req [(fFits b (liLit 1))]
    (.die (72)))
   (.req [(fFits b (liLit 1))]
    (.ite (fShortBy b (liLit 2) (liLit 2))
     (.req [(fFits b (liLit 2))]
      (.die (72)))
     (.req [(fFits b (liLit 2))]
      (.ite (lbLe (liLit 20) (liMul .i64 (liAnd .i64 (fNum b (liLit 0) 1) (liLit 15)) (liLit 4)))
       (.ite (lbLe (liMul .i64 (liAnd .i64 (fNum b (liLit 0) 1) (liLit 15)) (liLit 4)) (liLen b))
        (.ite (lbLe (liMul .i64 (liAnd .i64 (fNum b (liLit 0) 1) (liLit 15)) (liLit 4)) (fNum b (liLit 2) 2))
         (.ite (lbNot (lbLe (fNum b (liLit 2) 2) (liLen b)))
          (.req []
           (.die (72)))
          (.ite (fShortBy b (liLit 4) (liLit 2))
           (.req [(fFits b (liLit 4))]
            (.die (72)))
           (.req [(fFits b (liLit 4))]
            (.ite (fShortBy b (liLit 6) (liLit 2))
             (.req [(fFits b (liLit 6))]
              (.die (72)))
             (.req [(fFits b (liLit 6))]
              (.ite (fShortBy b (liLit 8) (liLit 1))
               (.req [(fFits b (liLit 8))]
                (.die (72)))
               (.req [(fFits b (liLit 8))]
                (.ite (fShortBy b (liLit 9) (liLit 1))
                 (.req [(fFits b (liLit 9))]
                  (.die (72)))
                 (.req [(fFits b (liLit 9))]
                  (.ite (fShortBy b (liLit 10) (liLit 2))
                   (.ite (lbNot (lbEqI (fSum (ltLit [(lsSub b (liLit 0) (liLit 10)), (lsSub b (liLit 12) (liMul .i64 (liAnd .i64 (fNum b (liLit 0) 1) (liLit 15)) (liLit 4)))])) (fNum b (liLit 10) 2)))
                    (.fail 110)
                    (.req [(lbLe (liLit 0) (liLit 10)), (lbLe (liLit 10) (liLen b)), (lbLe (liLit 0) (liLit 12)), (lbLe (liLit 12) (liMul .i64 (liAnd .i64 (fNum b (liLit 0) 1) (liLit 15)) (liLit 4))), (lbLe (liLit 0) (liMul .i64 (liAnd .i64 (fNum b (liLit 0) 1) (liLit 15)) (liLit 4))), (lbLe (liMul .i64 (liAnd .i64 (fNum b (liLit 0) 1) (liLit 15)) (liLit 4)) (liLen b)), (fSumOk (ltLit [(lsSub b (liLit 0) (liLit 10)), (lsSub b (liLit 12) (liMul .i64 (liAnd .i64 (fNum b (liLit 0) 1) (liLit 15)) (liLit 4)))])), (fFits b (liLit 10))]
                     (.die (72))))
                   (.ite (lbNot (lbEqI (fSum (ltLit [(lsSub b (liLit 0) (liLit 10)), (lsSub b (liLit 12) (liMul .i64 (liAnd .i64 (fNum b (liLit 0) 1) (liLit 15)) (liLit 4)))])) (fNum b (liLit 10) 2)))
                    (.req [(lbLe (liLit 0) (liLit 10)), (lbLe (liLit 10) (liLen b)), (lbLe (liLit 0) (liLit 12)), (lbLe (liLit 12) (liMul .i64 (liAnd .i64 (fNum b (liLit 0) 1) (liLit 15)) (liLit 4))), (lbLe (liLit 0) (liMul .i64 (liAnd .i64 (fNum b (liLit 0) 1) (liLit 15)) (liLit 4))), (lbLe (liMul .i64 (liAnd .i64 (fNum b (liLit 0) 1) (liLit 15)) (liLit 4)) (liLen b)), (fSumOk (ltLit [(lsSub b (liLit 0) (liLit 10)), (lsSub b (liLit 12) (liMul .i64 (liAnd .i64 (fNum b (liLit 0) 1) (liLit 15)) (liLit 4)))])), (fFits b (liLit 10))]
                     (.die (73)))
                    (.req [(lbLe (liLit 0) (liLit 10)), (lbLe (liLit 10) (liLen b)), (lbLe (liLit 0) (liLit 12)), (lbLe (liLit 12) (liMul .i64 (liAnd .i64 (fNum b (liLit 0) 1) (liLit 15)) (liLit 4))), (lbLe (liLit 0) (liMul .i64 (liAnd .i64 (fNum b (liLit 0) 1) (liLit 15)) (liLit 4))), (lbLe (liMul .i64 (liAnd .i64 (fNum b (liLit 0) 1) (liLit 15)) (liLit 4)) (liLen b)), (fSumOk (ltLit [(lsSub b (liLit 0) (liLit 10)), (lsSub b (liLit 12) (liMul .i64 (liAnd .i64 (fNum b (liLit 0) 1) (liLit 15)) (liLit 4)))])), (fFits b (liLit 10))]
                     (.ite (lbNot (lbLt (fNum b (liLit 6) 2) (liLit 32768)))
                      (.req []
                       (.die (74)))
                      (.ite (fShortBy b (liLit 12) (liLit 4))
                       (.req [(fFits b (liLit 12))]
                        (.die (72)))
                       (.req [(fFits b (liLit 12))]
                        (.ite (fShortBy b (liLit 16) (liLit 4))
                         (.req [(fFits b (liLit 16))]
                          (.die (72)))
                         (.req [(fFits b (liLit 16))]
                          (.req [(lbLe (liLit 0) (liLit 20)), (lbLe (liLit 20) (liMul .i64 (liAnd .i64 (fNum b (liLit 0) 1) (liLit 15)) (liLit 4))), (lbLe (liLit 0) (liMul .i64 (liAnd .i64 (fNum b (liLit 0) 1) (liLit 15)) (liLit 4))), (lbLe (liMul .i64 (liAnd .i64 (fNum b (liLit 0) 1) (liLit 15)) (liLit 4)) (liLen b))]
                           (.req [(lbLe (liLit 0) (liMul .i64 (liAnd .i64 (fNum b (liLit 0) 1) (liLit 15)) (liLit 4))), (lbLe (liMul .i64 (liAnd .i64 (fNum b (liLit 0) 1) (liLit 15)) (liLit 4)) (fNum b (liLit 2) 2)), (lbLe (liLit 0) (fNum b (liLit 2) 2)), (lbLe (fNum b (liLit 2) 2) (liLen b))]
                            (.ret (.agg [.bool (.sym (fAddrAt b (liLit 12) 4).v6), .byte (fAddrAt b (liLit 12) 4).b0, .byte (fAddrAt b (liLit 12) 4).b1, .byte (fAddrAt b (liLit 12) 4).b2, .byte (fAddrAt b (liLit 12) 4).b3, .byte (fAddrAt b (liLit 12) 4).b4, .byte (fAddrAt b (liLit 12) 4).b5, .byte (fAddrAt b (liLit 12) 4).b6, .byte (fAddrAt b (liLit 12) 4).b7, .byte (fAddrAt b (liLit 12) 4).b8, .byte (fAddrAt b (liLit 12) 4).b9, .byte (fAddrAt b (liLit 12) 4).b10, .byte (fAddrAt b (liLit 12) 4).b11, .byte (fAddrAt b (liLit 12) 4).b12, .byte (fAddrAt b (liLit 12) 4).b13, .byte (fAddrAt b (liLit 12) 4).b14, .byte (fAddrAt b (liLit 12) 4).b15, .bool (.sym (fAddrAt b (liLit 16) 4).v6), .byte (fAddrAt b (liLit 16) 4).b0, .byte (fAddrAt b (liLit 16) 4).b1, .byte (fAddrAt b (liLit 16) 4).b2, .byte (fAddrAt b (liLit 16) 4).b3, .byte (fAddrAt b (liLit 16) 4).b4, .byte (fAddrAt b (liLit 16) 4).b5, .byte (fAddrAt b (liLit 16) 4).b6, .byte (fAddrAt b (liLit 16) 4).b7, .byte (fAddrAt b (liLit 16) 4).b8, .byte (fAddrAt b (liLit 16) 4).b9, .byte (fAddrAt b (liLit 16) 4).b10, .byte (fAddrAt b (liLit 16) 4).b11, .byte (fAddrAt b (liLit 16) 4).b12, .byte (fAddrAt b (liLit 16) 4).b13, .byte (fAddrAt b (liLit 16) 4).b14, .byte (fAddrAt b (liLit 16) 4).b15, .int .i64 (.sym (fNum b (liLit 9) 1)), .int .i64 (.sym (fNum b (liLit 8) 1)), .int .i64 (.sym (fNum b (liLit 1) 1)), .int .i64 (.sym (fNum b (liLit 4) 2)), .int .i64 (.sym (liMul .i64 (liAnd .i64 (fNum b (liLit 6) 2) (liLit 8191)) (liLit 8))), .bool (.sym (lbNot (lbEqI (liAnd .i64 (fNum b (liLit 6) 2) (liLit 8192)) (liLit 0)))), .bool (.sym (lbNot (lbEqI (liAnd .i64 (fNum b (liLit 6) 2) (liLit 16384)) (liLit 0)))), .str (lsSub b (liLit 20) (liMul .i64 (liAnd .i64 (fNum b (liLit 0) 1) (liLit 15)) (liLit 4))), .int .i64 (.lit 0), .exts lxNil true, .bool (.lit false), .str (lsSub b (liMul .i64 (liAnd .i64 (fNum b (liLit 0) 1) (liLit 15)) (liLit 4)) (fNum b (liLit 2) 2))]) [.str b, .int .i64 (.lit 20)]))))))))))))))))))))
         (.req []
          (.die (72))))
        (.req []
         (.die (72))))
       (.req []
        (.die (72))))))))))
theorem and_low (n k : Nat) (hn : n < 2 ^ 63) (hk : k ≤ 62) : liAnd .i64 (n : Int) ((2 ^ k - 1 : Nat) : Int) = ((n % 2 ^ k : Nat) : Int) := by
  have e : liAnd .i64 (n : Int) ((2 ^ k - 1 : Nat) : Int) = IntKind.i64.wrap ((BitVec.ofInt 64 (n : Int) &&& BitVec.ofInt 64 ((2 ^ k - 1 : Nat) : Int)).toNat : Int) := rfl
  have hp : 2 ^ k ≤ 2 ^ 62 := Nat.pow_le_pow_right (by omega) hk
  have h2 : (BitVec.ofInt 64 (n : Int) &&& BitVec.ofInt 64 ((2 ^ k - 1 : Nat) : Int)).toNat = n % 2 ^ k := by
    rw [BitVec.toNat_and, BitVec.ofInt_natCast, BitVec.ofInt_natCast, BitVec.toNat_ofNat, BitVec.toNat_ofNat, Nat.mod_eq_of_lt (by omega), Nat.mod_eq_of_lt (by omega)]
    exact Nat.and_two_pow_sub_one_eq_mod n k
  have hlt : n % 2 ^ k < 2 ^ k := Nat.mod_lt _ (by omega)
  rw [e, h2]
  exact wi64 (by omega) (by omega)
def r4h (b : List UInt8) : Nat := num b 0 1 % 16 * 4
theorem r4h_eq (b : List UInt8) (h : 20 ≤ b.length) : liMul .i64 (liAnd .i64 (fNum b (liLit 0) 1) (liLit 15)) (liLit 4) = (r4h b : Int) := by
  have e1 : fNum b (liLit 0) 1 = (num b 0 1 : Int) := fNum_eq b 0 1 (by omega) (by omega)
  have l := num_lt b 0 1 (by omega)
  have e2 : liAnd .i64 (num b 0 1 : Int) (liLit 15) = ((num b 0 1 % 16 : Nat) : Int) := and_low (num b 0 1) 4 (by omega) (by omega)
  rw [e1, e2]
  have e3 : liMul .i64 ((num b 0 1 % 16 : Nat) : Int) (liLit 4) = IntKind.i64.wrap (((num b 0 1 % 16 : Nat) : Int) * 4) := rfl
  rw [e3, wi64 (by omega) (by omega)]
  simp only [r4h]; omega
def r4sum (b : List UInt8) : Int := fSum [lsSub b 0 10, lsSub b 12 (r4h b)]
def r4err (b : List UInt8) : Option Int :=
  if ¬ (20 ≤ r4h b ∧ r4h b ≤ b.length ∧ r4h b ≤ num b 2 2 ∧ num b 2 2 ≤ b.length) then some 72
  else if r4sum b ≠ num b 10 2 then some 73
  else if 32768 ≤ num b 6 2 then some 74
  else none
def r4pkt (b : List UInt8) : Packet :=
  ⟨fAddrAt b 12 4, fAddrAt b 16 4, num b 9 1, num b 8 1, num b 1 1, num b 4 2, liMul .i64 (liAnd .i64 (num b 6 2) 8191) 8, lbNot (lbEqI (liAnd .i64 (num b 6 2) 8192) 0), lbNot (lbEqI (liAnd .i64 (num b 6 2) 16384) 0),
    lsSub b 20 (r4h b), 0, [], false, lsSub b (r4h b) (num b 2 2)⟩
theorem holds76 (b : List UInt8) (h : 20 ≤ b.length) {R : D → List SC → Prop} {Rd : Int → Prop} {A : Nat → List (Nat × D) → List (Nat × Blk) → Prop} (hd : ∀ e, r4err b = some e → Rd e)
    (hr : r4err b = none → ∀ d l, d.norm = (D.agg (encPkt true (r4pkt b))).norm → l = [.str b, .int .i64 (.lit 20)] → R d l) : (tr76 b).holds R Rd A := by
  have s0 : fShortBy b (liLit 0) (liLit 1) = false := not_short b 0 1 (by omega)
  have s1 : fShortBy b (liLit 1) (liLit 1) = false := not_short b 1 1 (by omega)
  have s2 : fShortBy b (liLit 2) (liLit 2) = false := not_short b 2 2 (by omega)
  have s4 : fShortBy b (liLit 4) (liLit 2) = false := not_short b 4 2 (by omega)
  have s6 : fShortBy b (liLit 6) (liLit 2) = false := not_short b 6 2 (by omega)
  have s8 : fShortBy b (liLit 8) (liLit 1) = false := not_short b 8 1 (by omega)
  have s9 : fShortBy b (liLit 9) (liLit 1) = false := not_short b 9 1 (by omega)
  have s10 : fShortBy b (liLit 10) (liLit 2) = false := not_short b 10 2 (by omega)
  have s12 : fShortBy b (liLit 12) (liLit 4) = false := not_short b 12 4 (by omega)
  have s16 : fShortBy b (liLit 16) (liLit 4) = false := not_short b 16 4 (by omega)
  have f0 : fFits b (liLit 0) = true := fits_at b 0 (by omega)
  have f1 : fFits b (liLit 1) = true := fits_at b 1 (by omega)
  have f2 : fFits b (liLit 2) = true := fits_at b 2 (by omega)
  have f4 : fFits b (liLit 4) = true := fits_at b 4 (by omega)
  have f6 : fFits b (liLit 6) = true := fits_at b 6 (by omega)
  have f8 : fFits b (liLit 8) = true := fits_at b 8 (by omega)
  have f9 : fFits b (liLit 9) = true := fits_at b 9 (by omega)
  have f10 : fFits b (liLit 10) = true := fits_at b 10 (by omega)
  have f12 : fFits b (liLit 12) = true := fits_at b 12 (by omega)
  have f16 : fFits b (liLit 16) = true := fits_at b 16 (by omega)
  have n2 : fNum b (liLit 2) 2 = (num b 2 2 : Int) := fNum_eq b 2 2 (by omega) (by omega)
  have n6 : fNum b (liLit 6) 2 = (num b 6 2 : Int) := fNum_eq b 6 2 (by omega) (by omega)
  have n1 : fNum b (liLit 1) 1 = (num b 1 1 : Int) := fNum_eq b 1 1 (by omega) (by omega)
  have n4 : fNum b (liLit 4) 2 = (num b 4 2 : Int) := fNum_eq b 4 2 (by omega) (by omega)
  have n8 : fNum b (liLit 8) 1 = (num b 8 1 : Int) := fNum_eq b 8 1 (by omega) (by omega)
  have n9 : fNum b (liLit 9) 1 = (num b 9 1 : Int) := fNum_eq b 9 1 (by omega) (by omega)
  have n10 : fNum b (liLit 10) 2 = (num b 10 2 : Int) := fNum_eq b 10 2 (by omega) (by omega)
  simp only [tr76, Tr.holds, r4h_eq b h, n1, n2, n4, n6, n8, n9, n10, s0, s1, s2, s4, s6, s8, s9, s10, s12, s16, f0, f1, f2, f4, f6, f8, f9, f10, f12, f16, List.mem_cons, List.not_mem_nil, or_false, forall_eq, false_implies, true_implies, reduceCtorEq, true_and]
  simp only [lbNot_t, lbNot_f]
  simp only [lbLe_t, lbLe_f, lbEqI_t, lbEqI_f, lbLt_t, lbLt_f, liLen_eq, liLit_eq]
  have hh : (r4h b : Int) ≤ 60 := by simp only [r4h]; omega
  have sumok : fSumOk (ltLit [lsSub b 0 10, lsSub b 12 (r4h b : Int)]) = true := by
    simp only [fSumOk, ltLit, decide_eq_true_eq, lsSub, List.flatten_cons, List.flatten_nil, List.length_append, List.length_drop, List.length_take, List.length_nil]
    omega
  have err : ∀ e, r4err b = some e → Rd e := hd
  refine ⟨fun a1 => ⟨fun a2 => ⟨fun a3 => ⟨fun a4 => ⟨fun _ => trivial, hd 72 ?_⟩, fun a4 => ⟨fun a5 => ⟨?_, hd 73 ?_⟩, fun a5 => ⟨?_, fun a6 => ⟨fun _ => trivial, hd 74 ?_⟩, fun a6 => ⟨?_, ?_, hr ?_ _ _ ?_ rfl⟩⟩⟩⟩, fun a3 => ⟨fun _ => trivial, hd 72 ?_⟩⟩, fun a2 => ⟨fun _ => trivial, hd 72 ?_⟩⟩, fun a1 => ⟨fun _ => trivial, hd 72 ?_⟩⟩
  · rw [r4err, if_pos (by omega)]
  · intro q hq
    rcases hq with rfl | rfl | rfl | rfl | rfl | rfl | rfl | rfl
    all_goals first
      | rfl
      | exact sumok
      | (rw [lbLe_t]; omega)
  · rw [r4err, if_neg (by omega), if_pos (show r4sum b ≠ _ from a5)]
  · intro q hq
    rcases hq with rfl | rfl | rfl | rfl | rfl | rfl | rfl | rfl
    all_goals first
      | rfl
      | exact sumok
      | (rw [lbLe_t]; omega)
  · rw [r4err, if_neg (by omega), if_neg (fun h => h a5), if_pos (by omega)]
  · intro q hq
    rcases hq with rfl | rfl | rfl | rfl
    all_goals first
      | rfl
      | (rw [lbLe_t]; omega)
  · intro q hq
    rcases hq with rfl | rfl | rfl | rfl
    all_goals first
      | rfl
      | (rw [lbLe_t]; omega)
  · rw [r4err, if_neg (by omega), if_neg (fun h => h a5), if_neg (by omega)]
  · rfl
  · rw [r4err, if_pos (by omega)]
  · rw [r4err, if_pos (by omega)]
  · rw [r4err, if_pos (by omega)]

theorem con76 (b : List UInt8) (h : 20 ≤ b.length) (he : r4err b = none) : ConM Try.prog 76 [.str b, .int .i64 (.lit 0)] [] (.agg (encPkt true (r4pkt b))) [.str b, .int .i64 (.lit 20)] :=
  conM_flat tryBase (es := [e115, e116, e75, e58]) (by intro e he; rcases List.mem_cons.1 he with rfl | he; exact ok115; rcases List.mem_cons.1 he with rfl | he; exact ok116; rcases List.mem_cons.1 he with rfl | he; exact ok75; rcases List.mem_singleton.1 he with rfl; exact ok58) Try.func76 (by kernel_rfl) (by kernel_rfl) (by kernel_rfl) (by kernel_rfl) (by kernel_rfl) (by kernel_rfl) (by kernel_rfl)
  (t := tr76 b) (by kernel_rfl) (holds76 b h (fun e h => (by rw [he] at h; cases h)) (fun _ d l h1 h2 => (by subst h2; exact ⟨h1, rfl, by simp⟩)))

theorem die76 (b : List UInt8) (h : 20 ≤ b.length) (e : Int) (he : r4err b = some e) : ConMDie Try.prog 76 [.str b, .int .i64 (.lit 0)] [] e :=
  conMDie_flat tryBase (es := [e115, e116, e75, e58]) (by intro e he; rcases List.mem_cons.1 he with rfl | he; exact ok115; rcases List.mem_cons.1 he with rfl | he; exact ok116; rcases List.mem_cons.1 he with rfl | he; exact ok75; rcases List.mem_singleton.1 he with rfl; exact ok58) Try.func76 (by kernel_rfl) (by kernel_rfl) (by kernel_rfl) (by kernel_rfl) (by kernel_rfl) (by kernel_rfl) (by kernel_rfl)
  (t := tr76 b) (by kernel_rfl) (holds76 b h (fun e' h => (by rw [he] at h; cases h; rfl)) (fun h => (by rw [he] at h; cases h)))
end Go.Adit
