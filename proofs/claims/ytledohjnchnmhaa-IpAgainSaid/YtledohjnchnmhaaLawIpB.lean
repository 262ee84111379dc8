/- Part of the proofs of the laws: lemmas and contracts, no statement of its own. -/
import Derived.Test.YtledohjnchnmhaaLawIpSame
import Derived.Test.YtledohjnchnmhaaPlain6
set_option linter.unusedVariables false
set_option linter.unusedSimpArgs false
namespace Go.Adit
open Go.RowKit Go.Proofs
set_option maxRecDepth 100000
def c29h : List D → Option (D × List Bool)
  | [.s (.str b)] => some (.tup [.agg (encPkt true (fPP b)), .s (.int .i64 (.sym (fPC b)))], [])
  | _ => none
def e29h : Entry := ⟨29, none, c29h, noCallm, noDie⟩
theorem ok29h : EntryOK Try.prog e29h := by
  refine EntryOK.pure fun args r req hc hq => ?_
  unfold c29h at hc
  split at hc
  · simp only [Option.some.injEq, Prod.mk.injEq] at hc
    obtain ⟨rfl, rfl⟩ := hc
    exact con29 _
  · cases hc
def tShort (p : Packet) (k : Int) : Tr := (.req [(lbLe (liLit 0) k), (lbLe k (liLen (fBuildG p)))]
      (.ite (lbEqI (fPC (lsSub (fBuildG p) (liLit 0) k)) (liLit 70))
       (.ite (lbEqS (fPP (lsSub (fBuildG p) (liLit 0) k)).pay (lsLit []))
        (.ite (lbLt k (liLit 20))
         (.ret (.s (.bool (.sym (lbEqB (lbEqI (fPC (lsSub (fBuildG p) (liLit 0) k)) (liLit 70)) (lbLit true))))) [])
         (.ite p.src.v6
          (.ret (.s (.bool (.sym (lbEqB (lbEqI (fPC (lsSub (fBuildG p) (liLit 0) k)) (liLit 70)) (lbLt k (liLit 40)))))) [])
          (.ret (.s (.bool (.sym (lbEqB (lbEqI (fPC (lsSub (fBuildG p) (liLit 0) k)) (liLit 70)) (lbLit false))))) [])))
        (.ret (.s (.bool (.lit false))) []))
       (.ite (lbEqI (fPC (lsSub (fBuildG p) (liLit 0) k)) (liLit 72))
        (.ite (lbEqS (fPP (lsSub (fBuildG p) (liLit 0) k)).pay (lsLit []))
         (.ite (lbLt k (liLit 20))
          (.ret (.s (.bool (.sym (lbEqB (lbEqI (fPC (lsSub (fBuildG p) (liLit 0) k)) (liLit 70)) (lbLit true))))) [])
          (.ite p.src.v6
           (.ret (.s (.bool (.sym (lbEqB (lbEqI (fPC (lsSub (fBuildG p) (liLit 0) k)) (liLit 70)) (lbLt k (liLit 40)))))) [])
           (.ret (.s (.bool (.sym (lbEqB (lbEqI (fPC (lsSub (fBuildG p) (liLit 0) k)) (liLit 70)) (lbLit false))))) [])))
         (.ret (.s (.bool (.lit false))) []))
        (.ret (.s (.bool (.lit false))) []))))
def t8 (p : Packet) (a : Int) : Tr := (.req [(fPayOk p)]
 (.ite (lbNot (lbEqI (fBuildC p) (liLit 0)))
  (.ret (.s (.bool (.sym (lbEqS (fBuildG p) (lsLit []))))) [])
  (.ite (lbEqS (fBuildG p) (lsLit []))
   (.ret (.s (.bool (.lit false))) [])
   (.ite (lbLt a (liLit 0))
    (.req [(lbNot (lbEqI (liLen (fBuildG p)) (liLit 0)))]
     (tShort p (liRem (liSub .i64 (liLit 0) (liAdd .i64 a (liLit 1))) (liLen (fBuildG p)))))
    (.req [(lbNot (lbEqI (liLen (fBuildG p)) (liLit 0)))]
     (tShort p (liRem a (liLen (fBuildG p)))))))))
def t5 (p : Packet) (r : List UInt8) : Tr := (.req [(fPayOk p)]
 (.ite (lbNot (lbEqI (fBuildC p) (liLit 0)))
  (.ite (lbEqS (fBuildG p) (lsLit []))
   (.ret (.s (.bool (.sym (lbEqB (lbEqI (fBuildC p) (liLit 75)) (fRight p))))) [])
   (.ret (.s (.bool (.lit false))) []))
  (.req [(lbRoom (fBuildG p) r)]
   (.ite (fSame p (fPP (lsCat (fBuildG p) r)))
    (.ite (lbEqI (fPC (lsCat (fBuildG p) r)) (liLit 0))
     (.ret (.s (.bool (.sym (lbEqI (liLen (fBuildG p)) (fSize p))))) [])
     (.ret (.s (.bool (.lit false))) []))
    (.ret (.s (.bool (.lit false))) [])))))
def t6 (b : List UInt8) : Tr := (.ite (lbNot (lbEqI (fPC b) (liLit 0)))
 (.ite (lbEqS (fPP b).pay (lsLit []))
  (.ite (lbEqI (liLenX (fPP b).exts) (liLit 0))
   (.ite (lbEqI (fPC b) (liLit 70))
    (.ret (.s (.bool (.lit true))) [])
    (.ite (lbEqI (fPC b) (liLit 71))
     (.ret (.s (.bool (.lit true))) [])
     (.ite (lbEqI (fPC b) (liLit 72))
      (.ret (.s (.bool (.lit true))) [])
      (.ite (lbEqI (fPC b) (liLit 73))
       (.ret (.s (.bool (.lit true))) [])
       (.ret (.s (.bool (.sym (lbEqI (fPC b) (liLit 74))))) [])))))
   (.ret (.s (.bool (.lit false))) []))
  (.ret (.s (.bool (.lit false))) []))
 (.req [(fPayOk (fPP b))]
  (.ite (lbEqI (fBuildC (fPP b)) (liLit 0))
   (.ite (lbLe (fSize (fPP b)) (liLen b))
    (.req [(lbLe (liLit 0) (fSize (fPP b))), (lbLe (fSize (fPP b)) (liLen b))]
     (.ret (.s (.bool (.sym (lbEqS (fBuildG (fPP b)) (lsSub b (liLit 0) (fSize (fPP b))))))) []))
    (.ret (.s (.bool (.lit false))) []))
   (.ret (.s (.bool (.lit false))) []))))
def t9 (p q : Packet) : Tr := (.req [(fPayOk p)]
 (.req [(fPayOk q)]
  (.ite (lbNot (lbEqI (fBuildC p) (liLit 0)))
   (.ite (lbEqI (fBuildC p) (liLit 0))
    (.ite (lbEqI (fBuildC q) (liLit 0))
     (.ret (.s (.bool (.lit true))) [])
     (.ret (.s (.bool (.sym (lbEqS (fBuildG q) (lsLit []))))) []))
    (.ite (lbEqS (fBuildG p) (lsLit []))
     (.ite (lbEqI (fBuildC q) (liLit 0))
      (.ret (.s (.bool (.lit true))) [])
      (.ret (.s (.bool (.sym (lbEqS (fBuildG q) (lsLit []))))) []))
     (.ret (.s (.bool (.lit false))) [])))
   (.ite (lbNot (lbEqI (fBuildC q) (liLit 0)))
    (.ite (lbEqI (fBuildC p) (liLit 0))
     (.ite (lbEqI (fBuildC q) (liLit 0))
      (.ret (.s (.bool (.lit true))) [])
      (.ret (.s (.bool (.sym (lbEqS (fBuildG q) (lsLit []))))) []))
     (.ite (lbEqS (fBuildG p) (lsLit []))
      (.ite (lbEqI (fBuildC q) (liLit 0))
       (.ret (.s (.bool (.lit true))) [])
       (.ret (.s (.bool (.sym (lbEqS (fBuildG q) (lsLit []))))) []))
      (.ret (.s (.bool (.lit false))) [])))
    (.ret (.s (.bool (.sym (lbEqB (lbEqS (fBuildG p) (fBuildG q)) (fSame p q))))) [])))))
def es8 : List Entry := [e19, e21g, e29h]
def es5 : List Entry := [e19, e21g, e29h, e23, e24, e26]
theorem es8_ok : ∀ e ∈ es8, EntryOK Try.prog e := by
  intro e he
  unfold es8 at he
  rcases List.mem_cons.1 he with rfl | he; exact ok19
  rcases List.mem_cons.1 he with rfl | he; exact ok21g
  rcases List.mem_singleton.1 he with rfl; exact ok29h
theorem es5_ok : ∀ e ∈ es5, EntryOK Try.prog e := by
  intro e he
  unfold es5 at he
  rcases List.mem_cons.1 he with rfl | he; exact ok19
  rcases List.mem_cons.1 he with rfl | he; exact ok21g
  rcases List.mem_cons.1 he with rfl | he; exact ok29h
  rcases List.mem_cons.1 he with rfl | he; exact ok23 con23
  rcases List.mem_cons.1 he with rfl | he; exact ok24 con24
  rcases List.mem_singleton.1 he with rfl; exact ok26 con26
theorem pz : zPkt.pay = [] ∧ zPkt.exts = [] := ⟨rfl, rfl⟩
theorem one_q {y : Bool} (h : y = true) : ∀ q ∈ [y], q = true := List.forall_mem_cons.2 ⟨h, fun _ h => nomatch h⟩
theorem two_q {y z : Bool} (h : y = true) (h2 : z = true) : ∀ q ∈ [y, z], q = true := List.forall_mem_cons.2 ⟨h, one_q h2⟩
theorem retb {b : Bool} (h : b = true) : (D.s (.bool (.sym b))).norm = (D.s (.bool (.sym true))).norm := by rw [h]
theorem build_bad {p : Packet} (h : fBuildC p ≠ 0) : fBuildG p = [] := by
  rcases build_cases p with h3 | ⟨h3, h4⟩
  · exact absurd h3.1 h
  · exact h3
theorem holds_short {p : Packet} (hp : p.pay.length ≤ 2 ^ 40) (hC : fBuildC p = 0) (n : Nat) {Rd A} (hn : n < (fBuildG p).length) :
    (tShort p (n : Int)).holds (fun d _ => d.norm = (D.s (.bool (.sym true))).norm) Rd A := by
  have key := cut_short hp hC n hn
  have hS : lsSub (fBuildG p) (liLit 0) (n : Int) = (fBuildG p).take n := by
    show ((fBuildG p).take n).drop 0 = _
    rw [List.drop_zero]
  have hz : (fPP ((fBuildG p).take n)).pay = [] := by
    rw [fPP_bad (by rw [key]; split <;> decide)]; rfl
  unfold tShort
  rw [hS, hz, key]
  have r1 : lbLe (liLit 0) (n : Int) = true := by rw [lbLe_t]; show (0 : Int) ≤ _; omega
  have r2 : lbLe (n : Int) (liLen (fBuildG p)) = true := by rw [lbLe_t]; show (n : Int) ≤ ((fBuildG p).length : Int); omega
  by_cases h20 : n < 20
  · have c20 : lbLt (n : Int) (liLit 20) = true := by rw [lbLt_t]; show (n : Int) < 20; omega
    rw [if_pos (.inl h20)]
    simp only [Tr.holds, c20, show lbEqI 70 (liLit 70) = true from by decide, show lbEqS [] (lsLit []) = true from by decide, Bool.false_eq_true, Bool.true_eq_false, false_implies, true_implies, true_and, and_true]
    exact ⟨two_q r1 r2, rfl⟩
  · have c20 : lbLt (n : Int) (liLit 20) = false := by rw [lbLt_f]; show (20 : Int) ≤ (n : Int); omega
    cases hv : p.src.v6 with
    | false =>
      rw [if_neg (by simp; omega)]
      simp only [Tr.holds, c20, show lbEqI 72 (liLit 70) = false from by decide, show lbEqI 72 (liLit 72) = true from by decide, show lbEqS [] (lsLit []) = true from by decide, Bool.false_eq_true, Bool.true_eq_false, false_implies, true_implies, true_and, and_true]
      exact ⟨two_q r1 r2, rfl⟩
    | true =>
      by_cases h40 : n < 40
      · have c40 : lbLt (n : Int) (liLit 40) = true := by rw [lbLt_t]; show (n : Int) < 40; omega
        rw [if_pos (.inr ⟨rfl, h40⟩)]
        simp only [Tr.holds, c20, c40, show lbEqI 70 (liLit 70) = true from by decide, show lbEqS [] (lsLit []) = true from by decide, Bool.false_eq_true, Bool.true_eq_false, false_implies, true_implies, true_and, and_true]
        exact ⟨two_q r1 r2, rfl⟩
      · have c40 : lbLt (n : Int) (liLit 40) = false := by rw [lbLt_f]; show (40 : Int) ≤ (n : Int); omega
        rw [if_neg (by omega)]
        simp only [Tr.holds, c20, c40, show lbEqI 72 (liLit 70) = false from by decide, show lbEqI 72 (liLit 72) = true from by decide, show lbEqS [] (lsLit []) = true from by decide, Bool.false_eq_true, Bool.true_eq_false, false_implies, true_implies, true_and, and_true]
        exact ⟨two_q r1 r2, rfl⟩
theorem holds_short' {p : Packet} (hp : p.pay.length ≤ 2 ^ 40) (hC : fBuildC p = 0) (m : Int) (hm : 0 ≤ m) {Rd A} :
    (tShort p (liRem m (liLen (fBuildG p)))).holds (fun d _ => d.norm = (D.s (.bool (.sym true))).norm) Rd A := by
  have hl := (back hp hC []).2.2.2
  have e : liRem m (liLen (fBuildG p)) = ((m.toNat % (fBuildG p).length : Nat) : Int) := by
    show Int.tmod m ((fBuildG p).length : Int) = _
    rw [Int.tmod_eq_emod_of_nonneg hm]
    rw [show m = ((m.toNat : Nat) : Int) by omega]
    rw [Int.toNat_natCast]; rfl
  rw [e]
  exact holds_short hp hC _ (Nat.mod_lt _ (by omega))
theorem con8 (p : Packet) (hp : p.pay.length ≤ 2 ^ 40) (a : Int) (ha : inR .i64 a) : Con Try.prog 8 [.agg (encPkt false p), .s (.int .i64 (.sym a))] (.s (.bool (.sym true))) :=
  con_flat tryBase (es := es8) es8_ok Try.func8 (by kernel_rfl) (by kernel_rfl) (by kernel_rfl) (by kernel_rfl) (by kernel_rfl)
  (t := t8 p a) (by kernel_rfl) (by
  unfold t8
  refine ⟨one_q (by simpa [fPayOk] using hp), ?_⟩
  have hi : -9223372036854775808 ≤ a ∧ a ≤ 9223372036854775807 := ha
  by_cases hC : fBuildC p = 0
  · have hl := (back hp hC []).2.2.2
    have hne : fBuildG p ≠ [] := by intro e; rw [e] at hl; simp at hl
    have c1 : lbNot (lbEqI (fBuildC p) (liLit 0)) = false := by rw [lbNot_f, lbEqI_t]; exact hC
    have c2 : lbEqS (fBuildG p) (lsLit []) = false := by rw [lbEqS_f]; exact hne
    have c3 : ∀ q ∈ [lbNot (lbEqI (liLen (fBuildG p)) (liLit 0))], q = true := one_q (by rw [lbNot_t, lbEqI_f]; show ((fBuildG p).length : Int) ≠ 0; omega)
    refine ⟨fun h => (by rw [c1] at h; cases h), fun _ => ⟨fun h => (by rw [c2] at h; cases h), fun _ => ⟨fun hn => ⟨c3, ?_⟩, fun hn => ⟨c3, ?_⟩⟩⟩⟩
    · rw [lbLt_t] at hn
      have hn' : a < 0 := hn
      have e1 : liAdd .i64 a (liLit 1) = a + 1 := add64 (by simp only [liLit_eq]; omega) (by simp only [liLit_eq]; omega)
      have e2 : liSub .i64 (liLit 0) (a + 1) = 0 - (a + 1) := sub64 (by simp only [liLit_eq]; omega) (by simp only [liLit_eq]; omega)
      rw [e1, e2]
      exact holds_short' hp hC _ (by omega)
    · rw [lbLt_f] at hn
      have hn' : 0 ≤ a := hn
      exact holds_short' hp hC _ (by omega)
  · have c1 : lbNot (lbEqI (fBuildC p) (liLit 0)) = true := by rw [lbNot_t, lbEqI_f]; exact hC
    refine ⟨fun _ => retb ?_, fun h => (by rw [c1] at h; cases h)⟩
    rw [build_bad hC]; rfl)
theorem con5 (p : Packet) (hp : p.pay.length ≤ 2 ^ 40) (r : List UInt8) (hr : r.length ≤ 2 ^ 40) : Con Try.prog 5 [.agg (encPkt false p), .s (.str r)] (.s (.bool (.sym true))) :=
  con_flat tryBase (es := es5) es5_ok Try.func5 (by kernel_rfl) (by kernel_rfl) (by kernel_rfl) (by kernel_rfl) (by kernel_rfl)
  (t := t5 p r) (by kernel_rfl) (by
  unfold t5
  refine ⟨one_q (by simpa [fPayOk] using hp), ?_⟩
  by_cases hC : fBuildC p = 0
  · obtain ⟨k1, k2, k3, k4⟩ := back hp hC r
    have c1 : lbNot (lbEqI (fBuildC p) (liLit 0)) = false := by rw [lbNot_f, lbEqI_t]; exact hC
    have k2' : fPP (lsCat (fBuildG p) r) = p := k2
    have k1' : fPC (lsCat (fBuildG p) r) = 0 := k1
    have hbl : (fBuildG p).length ≤ 70000 := by
      obtain ⟨_, hB⟩ := built_of hp hC
      cases hB with
      | four h hv hs hb => rw [hb, four_len h hp hs]; omega
      | six h hv hs hb => rw [hb, six_len h hp hs]; omega
    refine ⟨fun h => (by rw [c1] at h; cases h), fun _ => ⟨one_q ?_, ?_⟩⟩
    · rw [lbRoom_t]; omega
    · rw [k2', k1', fSame_self]
      refine ⟨fun _ => ⟨fun _ => retb ?_, fun h => (by cases h)⟩, fun h => (by cases h)⟩
      rw [lbEqI_t]; exact k3
  · have c1 : lbNot (lbEqI (fBuildC p) (liLit 0)) = true := by rw [lbNot_t, lbEqI_f]; exact hC
    have hB := build_bad hC
    refine ⟨fun _ => ⟨fun _ => retb ?_, fun h => (by rw [hB] at h; cases h)⟩, fun h => (by rw [c1] at h; cases h)⟩
    unfold fBuildC fBuild at hC ⊢
    cases hR : fRight p with
    | false => rw [if_neg (by decide)]; rfl
    | true =>
      rw [hR, if_pos rfl] at hC
      rw [if_pos rfl]
      split
      · rename_i hv
        rw [if_pos hv] at hC
        split
        · rfl
        · rename_i h; rw [if_neg h] at hC; exact absurd rfl hC
      · rename_i hv
        rw [if_neg hv] at hC
        split
        · rfl
        · rename_i h; rw [if_neg h] at hC; exact absurd rfl hC)
theorem ofByte_inj {a b : UInt8} (h : liOfByte a = liOfByte b) : a = b := by
  unfold liOfByte at h
  exact UInt8.toNat_inj.1 (by omega)
theorem fEqX_eq : ∀ {x y : List Ext}, fEqX x y = true → x = y
  | [], [], _ => rfl
  | [], _ :: _, h => (by cases h)
  | _ :: _, [], h => (by cases h)
  | ⟨k, b⟩ :: r, ⟨k', b'⟩ :: r', h => by
    have h : ((lbEqI k k' && lbEqS b b') && fEqX r r') = true := h
    simp only [Bool.and_eq_true] at h
    obtain ⟨⟨h1, h2⟩, h3⟩ := h
    rw [lbEqI_t] at h1
    rw [lbEqS_t] at h2
    have := fEqX_eq h3
    subst h1 h2 this; rfl
theorem eqB_t {a b : Bool} (h : lbEqB a b = true) : a = b := by unfold lbEqB at h; simpa using h
theorem fAEq_eq {a b : Addr} (h : fAEq a b = true) : a = b := by
  obtain ⟨v, a0, a1, a2, a3, a4, a5, a6, a7, a8, a9, a10, a11, a12, a13, a14, a15⟩ := a
  obtain ⟨v', b0, b1, b2, b3, b4, b5, b6, b7, b8, b9, b10, b11, b12, b13, b14, b15⟩ := b
  simp only [fAEq, lbAnd, Bool.and_eq_true, lbEqI_t] at h
  obtain ⟨hv, h0, h1, h2, h3, h4, h5, h6, h7, h8, h9, h10, h11, h12, h13, h14, h15⟩ := h
  have hv := eqB_t hv
  have h0 := ofByte_inj h0; have h1 := ofByte_inj h1; have h2 := ofByte_inj h2; have h3 := ofByte_inj h3; have h4 := ofByte_inj h4; have h5 := ofByte_inj h5; have h6 := ofByte_inj h6; have h7 := ofByte_inj h7
  have h8 := ofByte_inj h8; have h9 := ofByte_inj h9; have h10 := ofByte_inj h10; have h11 := ofByte_inj h11; have h12 := ofByte_inj h12; have h13 := ofByte_inj h13; have h14 := ofByte_inj h14; have h15 := ofByte_inj h15
  subst hv h0 h1 h2 h3 h4 h5 h6 h7 h8 h9 h10 h11 h12 h13 h14 h15; rfl
theorem fSame_eq {p q : Packet} (h : fSame p q = true) : p = q := by
  obtain ⟨src, dst, proto, hop, cls, id, off, more, still, opts, flow, exts, cut, pay⟩ := p
  obtain ⟨src', dst', proto', hop', cls', id', off', more', still', opts', flow', exts', cut', pay'⟩ := q
  simp only [fSame, Bool.and_eq_true, lbEqI_t, lbEqS_t] at h
  obtain ⟨⟨⟨⟨⟨⟨⟨⟨⟨⟨⟨⟨⟨h1, h2⟩, h3⟩, h4⟩, h5⟩, h6⟩, h7⟩, h8⟩, h9⟩, h10⟩, h11⟩, h12⟩, h13⟩, h14⟩ := h
  have h1 := fEqX_eq h1; have h2 := fAEq_eq h2; have h3 := fAEq_eq h3; have h9 := eqB_t h9; have h10 := eqB_t h10; have h13 := eqB_t h13
  subst h1 h2 h3 h4 h5 h6 h7 h8 h9 h10 h11 h12 h13 h14; rfl
theorem con9 (p q : Packet) (hp : p.pay.length ≤ 2 ^ 40) (hq : q.pay.length ≤ 2 ^ 40) : Con Try.prog 9 [.agg (encPkt false p), .agg (encPkt false q)] (.s (.bool (.sym true))) :=
  con_flat tryBase (es := es5) es5_ok Try.func9 (by kernel_rfl) (by kernel_rfl) (by kernel_rfl) (by kernel_rfl) (by kernel_rfl)
  (t := t9 p q) (by kernel_rfl) (by
  unfold t9
  refine ⟨one_q (by simpa [fPayOk] using hp), one_q (by simpa [fPayOk] using hq), ?_⟩
  have e0 : ∀ x : Packet, fBuildC x ≠ 0 → lbEqS (fBuildG x) (lsLit []) = true := fun x h => by rw [build_bad h]; rfl
  have eN : ∀ x : Packet, fBuildC x ≠ 0 → lbEqI (fBuildC x) (liLit 0) = false := fun x h => by rw [lbEqI_f]; exact h
  have eE : ∀ x : Packet, fBuildC x = 0 → lbEqI (fBuildC x) (liLit 0) = true := fun x h => by rw [lbEqI_t]; exact h
  by_cases hP : fBuildC p = 0 <;> by_cases hQ : fBuildC q = 0
  · simp only [Tr.holds, eE p hP, eE q hQ, show lbNot true = false from rfl, Bool.false_eq_true, Bool.true_eq_false, false_implies, true_implies, true_and, and_true]
    refine retb ?_
    by_cases h : p = q
    · subst h
      rw [fSame_self, show lbEqS (fBuildG p) (fBuildG p) = true from by rw [lbEqS_t]]; rfl
    · have h1 : fSame p q = false := by
        cases e : fSame p q with
        | false => rfl
        | true => exact absurd (fSame_eq e) h
      have h2 : lbEqS (fBuildG p) (fBuildG q) = false := by
        rw [lbEqS_f]; exact fun e => h (apart hp hq hP hQ e)
      rw [h1, h2]; rfl
  · simp only [Tr.holds, eE p hP, eN q hQ, e0 q hQ, show lbNot true = false from rfl, show lbNot false = true from rfl, Bool.false_eq_true, Bool.true_eq_false, false_implies, true_implies, true_and, and_true]
  · simp only [Tr.holds, eN p hP, eE q hQ, e0 p hP, show lbNot true = false from rfl, show lbNot false = true from rfl, Bool.false_eq_true, Bool.true_eq_false, false_implies, true_implies, true_and, and_true]
    rfl
  · simp only [Tr.holds, eN p hP, eN q hQ, e0 p hP, e0 q hQ, show lbNot true = false from rfl, show lbNot false = true from rfl, Bool.false_eq_true, Bool.true_eq_false, false_implies, true_implies, true_and, and_true])
end Go.Adit

