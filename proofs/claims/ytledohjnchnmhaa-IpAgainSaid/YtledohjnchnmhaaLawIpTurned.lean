/- Part of the proofs of the laws: lemmas and contracts, no statement of its own. -/
import Derived.Test.YtledohjnchnmhaaLawIpSame
import Derived.Test.YtledohjnchnmhaaTurnP
set_option linter.unusedVariables false
set_option linter.unusedSimpArgs false
namespace Go.Adit
open Go.RowKit Go.Proofs
set_option maxRecDepth 100000
def fBuildG (p : Packet) : List UInt8 := (fBuild p).1
def fBuildC (p : Packet) : Int := (fBuild p).2
def c21g : List D → Option (D × List Bool)
  | [.agg x] => match decPkt x with
    | some y => some (.tup [.s (.str (fBuildG y)), .s (.int .i64 (.sym (fBuildC y)))], [fPayOk y])
    | none => none
  | _ => none
def e21g : Entry := ⟨21, none, c21g, noCallm, noDie⟩
def c29n : List D → Option (D × List Bool)
  | [.s (.str b)] => some (.tup [.agg (encPkt true (fParseP b)), .s (.int .i64 (.sym (fParseC b)))], [ok29n b])
  | _ => none
def e29n : Entry := ⟨29, none, c29n, noCallm, noDie⟩
theorem ok21g : EntryOK Try.prog e21g := by
  refine EntryOK.pure fun args r req hc hq => ?_
  unfold c21g at hc
  split at hc
  · rename_i x0
    split at hc
    · rename_i y0 hy0
      simp only [Option.some.injEq, Prod.mk.injEq] at hc
      obtain ⟨rfl, rfl⟩ := hc
      have h2 := hq _ (.head _)
      exact Con.args (con21 y0 (by simpa [fPayOk] using h2)) fun w vs hv => (match vs, hv with
        | [_], ⟨h0, _⟩ => ⟨(let ⟨cs, e1, e2⟩ := h0; ⟨cs, e1, decPkt_rep hy0 e2⟩), trivial⟩)
    · cases hc
  · cases hc
theorem ok29nE : EntryOK Try.prog e29n := by
  refine EntryOK.pure fun args r req hc hq => ?_
  unfold c29n at hc
  split at hc
  · rename_i x0
    simp only [Option.some.injEq, Prod.mk.injEq] at hc
    obtain ⟨rfl, rfl⟩ := hc
    exact con29_g x0 (hq _ (.head _))
  · cases hc
def turned (b : List UInt8) (k x : Int) : List UInt8 := lsCat (lsCat (lsSub b (liLit 0) k) (lsOf [(lyOfInt (liXor .u8 (liOfByte (lsAt b k)) x))])) (lsSub b (liAdd .i64 k (liLit 1)) (liLen b))
def tTurn (b : List UInt8) (k x : Int) : Tr := (.req [(lbLe (liLit 0) k), (lbLe k (liLen b)), (lbLe (liLit 0) k), (lbLt k (liLen b)), (lbRoom (lsSub b (liLit 0) k) (lsOf [(lyOfInt (liXor .u8 (liOfByte (lsAt b k)) x))])), (lbLe (liLit 0) (liAdd .i64 k (liLit 1))), (lbLe (liAdd .i64 k (liLit 1)) (liLen b)), (lbRoom (lsCat (lsSub b (liLit 0) k) (lsOf [(lyOfInt (liXor .u8 (liOfByte (lsAt b k)) x))])) (lsSub b (liAdd .i64 k (liLit 1)) (liLen b)))]
        (.req [(ok29n (turned b k x))]
         (.ite (lbEqI (fParseC (turned b k x)) (liLit 72))
          (.ret (.s (.bool (.lit true))) [])
          (.ret (.s (.bool (.sym (lbEqI (fParseC (turned b k x)) (liLit 73))))) []))))
def tK (b : List UInt8) (k y : Int) : Tr := (.ite (lbLe (liLen b) k)
      (.ret (.s (.bool (.lit false))) [])
      (.ite (lbEqI (liConv .u8 y) (liLit 0)) (tTurn b k (liLit 1)) (tTurn b k (liConv .u8 y))))
def tL (p : Packet) (m y : Int) : Tr := (.req [(lbNot (lbEqI (liAdd .i64 (liLit 19) (liLen p.opts)) (liLit 0)))] (tK (fBuildG p) (liAdd .i64 (liLit 1) (liRem m (liAdd .i64 (liLit 19) (liLen p.opts)))) y))
theorem xor_ne (c : UInt8) (x : Int) (h : 1 ≤ x ∧ x ≤ 255) : c ≠ lyOfInt (liXor .u8 (liOfByte c) x) := by
  intro e
  have e1 : liXor .u8 (liOfByte c) x = (((BitVec.ofInt 8 (c.toNat : Int) ^^^ BitVec.ofInt 8 x).toNat : Nat) : Int) := by
    show IntKind.u8.wrap ((BitVec.ofInt 8 (c.toNat : Int) ^^^ BitVec.ofInt 8 x).toNat : Int) = _
    have := (BitVec.ofInt 8 (c.toNat : Int) ^^^ BitVec.ofInt 8 x).isLt
    unfold IntKind.wrap
    have h1 : IntKind.bits .u8 = 8 := rfl
    simp only [IntKind.signed, h1, Bool.false_and, Bool.false_eq_true, if_false]
    omega
  have e2 := congrArg UInt8.toNat e
  rw [e1] at e2
  have hl := (BitVec.ofInt 8 (c.toNat : Int) ^^^ BitVec.ofInt 8 x).isLt
  have e3 : c.toNat = (BitVec.ofInt 8 (c.toNat : Int) ^^^ BitVec.ofInt 8 x).toNat := by
    refine e2.trans ?_
    show (UInt8.ofNat _).toNat = _
    rw [UInt8.toNat_ofNat', Int.toNat_natCast]
    omega
  have e4 : (BitVec.ofInt 8 (c.toNat : Int)).toNat = c.toNat := by
    have := c.toNat_lt
    rw [BitVec.toNat_ofInt]; omega
  have e5 : BitVec.ofInt 8 (c.toNat : Int) ^^^ BitVec.ofInt 8 x = BitVec.ofInt 8 (c.toNat : Int) := BitVec.eq_of_toNat_eq (by omega)
  have e6 : BitVec.ofInt 8 x = 0#8 := by
    have := congrArg (BitVec.ofInt 8 (c.toNat : Int) ^^^ ·) e5
    simpa [← BitVec.xor_assoc] using this
  have e7 := congrArg BitVec.toNat e6
  rw [BitVec.toNat_ofInt] at e7
  have : (0#8).toNat = 0 := rfl
  omega
theorem holds_turn {p : Packet} (h : Four p) {b : List UInt8} (H : Hdr p b) (hb : b.length ≤ 65535) (k x : Int) (hk : 1 ≤ k) (hk2 : k < 20 + p.opts.length) (hx : 1 ≤ x ∧ x ≤ 255) {Rd A} :
    (tTurn b k x).holds (fun d _ => d.norm = (D.s (.bool (.sym true))).norm) Rd A := by
  have hlen := H.len
  have h0 := h.o40
  obtain ⟨j, rfl⟩ : ∃ j : Nat, k = (j : Int) := ⟨k.toNat, by omega⟩
  have hj : j < b.length := by omega
  have hsplit : b = b.take j ++ b[j] :: b.drop (j + 1) := by rw [List.getElem_cons_drop, List.take_append_drop]
  have hat : lsAt b (j : Int) = b[j] := by
    show b.getD j 0 = _
    simp [List.getD_eq_getElem?_getD, hj]
  have hadd : liAdd .i64 (j : Int) (liLit 1) = ((j + 1 : Nat) : Int) := add64 (by simp only [liLit_eq]; omega) (by simp only [liLit_eq]; omega)
  have ht : turned b j x = b.take j ++ (lyOfInt (liXor .u8 (liOfByte b[j]) x)) :: b.drop (j + 1) := by
    unfold turned
    rw [hat, hadd]
    show ((b.take j).drop 0 ++ [_]) ++ ((b.take b.length).drop (j + 1)) = _
    rw [List.take_length, List.drop_zero, List.append_assoc]; rfl
  have htl : (b.take j).length = j := by rw [List.length_take]; omega
  have H2 := H
  rw [hsplit] at H2
  have key := hdr_turn h.o4 h.o40 H2 (by omega) (by omega) (xor_ne b[j] x hx)
  rw [← ht] at key
  have hl2 : (turned b j x).length = b.length := by rw [ht, List.length_append, List.length_cons, htl, List.length_drop]; omega
  have hg0 : (turned b j x).getD 0 0 = b.getD 0 0 := by
    rw [ht]
    conv => rhs; rw [hsplit]
    rw [getD_mid, getD_mid]
    simp only [show ¬ (0 = (b.take j).length) by omega, show 0 < (b.take j).length by omega, if_true, if_false]
  have hv : verOf (turned b j x) = 4 := by
    show (liOfByte ((turned b j x).getD 0 0)).fdiv (2 ^ (min (4 : Int).toNat 8)) = 4
    rw [hg0]
    show (((b.getD 0 0).toNat : Nat) : Int).fdiv 16 = 4
    rw [H.b0, Int.fdiv_eq_ediv_of_nonneg _ (by decide)]
    omega
  have hne : turned b j x ≠ [] := by intro e; rw [e] at hl2; simp at hl2; omega
  have hc : fParseC (turned b j x) = (r4err (turned b j x)).getD 0 := by
    unfold fParseC
    rw [if_neg hne, if_pos hv, if_neg (by omega)]
  refine ⟨?_, ?_, ?_⟩
  · refine List.forall_mem_cons.2 ⟨?_, List.forall_mem_cons.2 ⟨?_, List.forall_mem_cons.2 ⟨?_, List.forall_mem_cons.2 ⟨?_, List.forall_mem_cons.2 ⟨?_, List.forall_mem_cons.2 ⟨?_, List.forall_mem_cons.2 ⟨?_, List.forall_mem_cons.2 ⟨?_, fun _ h => nomatch h⟩⟩⟩⟩⟩⟩⟩⟩
    all_goals simp only [liLit_eq, show liAdd .i64 (j : Int) 1 = ((j + 1 : Nat) : Int) from hadd, lbLe_t, lbLt_t, lbRoom_t, liLen_eq, liLit_eq, lsCat, lsSub, lsOf, List.length_append, List.length_drop, List.length_take, List.length_cons, List.length_nil]
    all_goals omega
  · intro q hq
    rcases List.mem_singleton.1 hq with rfl
    unfold ok29n; rw [hv]; rfl
  · rw [hc]
    have q2 : lbEqI ((some (72 : Int)).getD 0) (liLit 72) = true := by decide +kernel
    have q3 : lbEqI ((some (73 : Int)).getD 0) (liLit 72) = false := by decide +kernel
    have q4 : lbEqI ((some (73 : Int)).getD 0) (liLit 73) = true := by decide +kernel
    rcases key with e | e <;> rw [e]
    · exact ⟨fun _ => rfl, fun h => nomatch (q2.symm.trans h)⟩
    · refine ⟨fun h => (nomatch (q3.symm.trans h)), fun _ => ?_⟩
      show (D.s (.bool (.sym _))).norm = _
      rw [q4]
theorem holds_tL {p : Packet} (h : Four p) {b : List UInt8} (hb : fBuildG p = b) (H : Hdr p b) (hl : b.length ≤ 65535) (m y : Int) (hm : 0 ≤ m) {Rd A} :
    (tL p m y).holds (fun d _ => d.norm = (D.s (.bool (.sym true))).norm) Rd A := by
  have h0 := h.o40
  have hlen := H.len
  have hL : liAdd .i64 (liLit 19) (liLen p.opts) = ((19 + p.opts.length : Nat) : Int) := by
    show liAdd .i64 19 (p.opts.length : Int) = _
    rw [add64 (by omega) (by omega)]; omega
  have hr : liRem m ((19 + p.opts.length : Nat) : Int) = m % ((19 + p.opts.length : Nat) : Int) := Int.tmod_eq_emod_of_nonneg hm
  have hr0 := Int.emod_nonneg m (b := ((19 + p.opts.length : Nat) : Int)) (by omega)
  have hr1 := Int.emod_lt_of_pos m (b := ((19 + p.opts.length : Nat) : Int)) (by omega)
  have hk : liAdd .i64 (liLit 1) (m % ((19 + p.opts.length : Nat) : Int)) = 1 + m % ((19 + p.opts.length : Nat) : Int) := add64 (by simp only [liLit_eq]; omega) (by simp only [liLit_eq]; omega)
  unfold tL
  rw [hL, hr, hk, hb]
  refine ⟨?_, ?_⟩
  · intro q hq
    rcases List.mem_singleton.1 hq with rfl
    rw [lbNot_t, lbEqI_f]
    show ((19 + p.opts.length : Nat) : Int) ≠ 0
    omega
  · refine ⟨fun hc => ?_, fun _ => ⟨fun hy => ?_, fun hy => ?_⟩⟩
    · exfalso
      rw [lbLe_t] at hc
      have : (b.length : Int) ≤ 1 + m % ((19 + p.opts.length : Nat) : Int) := hc
      omega
    · exact holds_turn h H hl _ _ (by omega) (by omega) ⟨by decide, by decide⟩
    · rw [lbEqI_f] at hy
      have hy' : IntKind.u8.wrap y ≠ 0 := hy
      have hw : 0 ≤ IntKind.u8.wrap y ∧ IntKind.u8.wrap y ≤ 255 := by
        unfold IntKind.wrap
        have h1 : IntKind.bits .u8 = 8 := rfl
        simp only [IntKind.signed, h1, Bool.false_and, Bool.false_eq_true, if_false]
        omega
      refine holds_turn h H hl _ _ (by omega) (by omega) ?_
      show 1 ≤ IntKind.u8.wrap y ∧ IntKind.u8.wrap y ≤ 255
      omega
theorem build_cases (p : Packet) : (fBuildC p = 0 ∧ fRight p = true ∧ ((p.src.v6 = true ∧ liSub .i64 (fSz p) 40 ≤ 65535 ∧ fBuildG p = fSix p) ∨ (p.src.v6 = false ∧ fSz p ≤ 65535 ∧ fBuildG p = fFour p))) ∨ (fBuildG p = [] ∧ fBuildC p ≠ 0) := by
  unfold fBuildC fBuildG fBuild
  split
  · rename_i h
    split
    · rename_i hv
      split
      · exact .inr ⟨rfl, by decide⟩
      · rename_i hb
        refine .inl ⟨rfl, h, .inl ⟨hv, ?_, rfl⟩⟩
        rw [lbLt_t] at hb; omega
    · rename_i hv
      split
      · exact .inr ⟨rfl, by decide⟩
      · rename_i hb
        refine .inl ⟨rfl, h, .inr ⟨by simpa using hv, ?_, rfl⟩⟩
        rw [lbLt_t] at hb; omega
  · exact .inr ⟨rfl, by decide⟩
theorem con7 (p : Packet) (hp : p.pay.length ≤ 2 ^ 40) (a y : Int) (ha : inR .i64 a) : Con Try.prog 7 [.agg (encPkt false p), .s (.int .i64 (.sym a)), .s (.int .i64 (.sym y))] (.s (.bool (.sym true))) :=
  con_flat tryBase (es := [e19, e21g, e29n]) (by
    intro e he
    rcases List.mem_cons.1 he with rfl | he; exact ok19
    rcases List.mem_cons.1 he with rfl | he; exact ok21g
    rcases List.mem_singleton.1 he with rfl; exact ok29nE) Try.func7 (by kernel_rfl) (by kernel_rfl) (by kernel_rfl) (by kernel_rfl) (by kernel_rfl)
  (t := (.req [(fPayOk p)]
 (.ite (lbNot (lbEqI (fBuildC p) (liLit 0)))
  (.ite (lbEqI (fBuildC p) (liLit 0))
   (.ret (.s (.bool (.lit true))) [])
   (.ret (.s (.bool (.sym (lbEqS (fBuildG p) (lsLit []))))) []))
  (.ite p.src.v6
   (.ite (lbEqI (fBuildC p) (liLit 0))
    (.ret (.s (.bool (.lit true))) [])
    (.ret (.s (.bool (.sym (lbEqS (fBuildG p) (lsLit []))))) []))
   (.ite (lbLt a (liLit 0))
    (tL p (liSub .i64 (liLit 0) (liAdd .i64 a (liLit 1))) y) (tL p a y)))))) (by kernel_rfl) (by
  refine ⟨?_, ?_⟩
  · intro q hq
    rcases List.mem_singleton.1 hq with rfl
    simpa [fPayOk] using hp
  refine ⟨fun h => ⟨fun _ => rfl, fun h2 => ?_⟩, fun h => ⟨fun hv => ⟨fun _ => rfl, fun h2 => ?_⟩, fun hv => ?_⟩⟩
  · rcases build_cases p with h3 | ⟨h3, h4⟩
    · rw [h3.1] at h2; cases h2
    · rw [h3]; rfl
  · rcases build_cases p with h3 | ⟨h3, h4⟩
    · rw [h3.1] at h2; cases h2
    · rw [h3]; rfl
  · rw [lbNot_f, lbEqI_t] at h
    rcases build_cases p with ⟨h1, h2, ⟨h3, _⟩ | ⟨h3, h4, h5⟩⟩ | ⟨h3, h4⟩
    · rw [h3] at hv; cases hv
    · have F := four_of h2 h3
      have H := four_hdr F hp h4
      have hl : (fFour p).length ≤ 65535 := by
        have := H.len
        rw [four_size F hp] at h4; omega
      have hi : -9223372036854775808 ≤ a ∧ a ≤ 9223372036854775807 := ha
      refine ⟨fun hn => ?_, fun hn => ?_⟩
      · rw [lbLt_t] at hn
        have hn' : a < 0 := hn
        refine holds_tL F h5 H hl _ _ ?_
        have e1 : liAdd .i64 a (liLit 1) = a + 1 := add64 (by simp only [liLit_eq]; omega) (by simp only [liLit_eq]; omega)
        rw [e1]
        have e2 : liSub .i64 (liLit 0) (a + 1) = 0 - (a + 1) := sub64 (by simp only [liLit_eq]; omega) (by simp only [liLit_eq]; omega)
        rw [e2]; omega
      · rw [lbLt_f] at hn
        have hn' : 0 ≤ a := hn
        exact holds_tL F h5 H hl _ _ hn'
    · exact absurd h h4)
end Go.Adit
