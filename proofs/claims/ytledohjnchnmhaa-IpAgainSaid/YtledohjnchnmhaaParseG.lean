/- Part of the proofs of the laws: lemmas and contracts, no statement of its own. -/
import Derived.Test.YtledohjnchnmhaaAw13
set_option linter.unusedVariables false
set_option linter.unusedSimpArgs false
namespace Go.Adit
open Go.RowKit Go.Proofs
set_option maxRecDepth 100000
def r6short (_ : List UInt8) : Bool := false
def m77s : List SC → List D → Option (D × List SC × List Bool)
  | [.str b, .int .i64 (.lit 0)], [] => some (.agg (encPkt true (r4pkt b)), [.str b, .int .i64 (.lit 20)], [lbLit false])
  | _, _ => none
def d77s : List SC → List D → Option (BV × Int)
  | [.str b, .int .i64 (.lit 0)], [] => some (.sym (r6short b), 72)
  | _, _ => none
def e77s : Entry := ⟨77, some 2, noCall, m77s, d77s⟩

theorem ok77s : EntryOK Try.prog e77s := by
  constructor
  · intro args r req h1; cases h1
  · intro cells args r cells' req h1 h2 h3 h4
    simp only [e77s] at h3
    unfold m77s at h3
    split at h3
    · simp only [Option.some.injEq, Prod.mk.injEq] at h3
      obtain ⟨_, _, rfl⟩ := h3
      have := h4 _ (.head _)
      cases this
    · cases h3
  · intro args b n h1; cases h1
  · intro cells args bv n h1 h2 h3
    simp only [e77s] at h2
    unfold d77s at h2
    split at h2
    · simp only [Option.some.injEq, Prod.mk.injEq] at h2
      obtain ⟨rfl, rfl⟩ := h2
      cases h3
    · cases h2
def verOf (b : List UInt8) : Int := liShr .u8 (liOfByte (lsAt b 0)) 4
def zPkt : Packet := ⟨zAddr, zAddr, 0, 0, 0, 0, 0, false, false, [], 0, [], false, []⟩
def fParseC (b : List UInt8) : Int := if b = [] then 70 else if verOf b = 4 then (if b.length < 20 then 70 else (r4err b).getD 0) else if verOf b = 6 then (if b.length < 40 then 70 else 72) else 71
def fParseP (b : List UInt8) : Packet := if b ≠ [] ∧ verOf b = 4 ∧ 20 ≤ b.length ∧ r4err b = none then r4pkt b else zPkt
def ok29n (b : List UInt8) : Bool := !(decide (verOf b = 6))
theorem dieP (n : Int) (p : Packet) (e : Int) (hn : 70 ≤ n ∧ n ≤ 74) (h : p = zPkt) (he : e = n) : inR .i64 n ∧ (D.tup [.agg z27, .s (.int .i64 (.sym n))]).norm = (D.tup [.agg (encPkt true p), .s (.int .i64 (.sym e))]).norm := by
  subst h he
  refine ⟨?_, rfl⟩
  unfold inR
  have h1 : IntKind.min .i64 = -9223372036854775808 := rfl
  have h2 : IntKind.max .i64 = 9223372036854775807 := rfl
  rw [h1, h2]; omega
theorem r4err_in {b : List UInt8} {e : Int} (h : r4err b = some e) : e = 72 ∨ e = 73 ∨ e = 74 := by
  unfold r4err at h
  repeat' split at h
  all_goals first | (cases h; omega) | cases h
theorem con29_g (b : List UInt8) (hok : ok29n b = true) : Con Try.prog 29 [.s (.str b)] (.tup [.agg (encPkt true (fParseP b)), .s (.int .i64 (.sym (fParseC b)))]) := by
  refine con29_of (es := [e75, e76, e77s]) (by intro e he; rcases List.mem_cons.1 he with rfl | he; exact ok75; rcases List.mem_cons.1 he with rfl | he; exact ok76; rcases List.mem_singleton.1 he with rfl; exact ok77s)
    (fun f k h => by
      unfold eLent at h
      split at h
      · rename_i e he
        have := (findE_of he).1
        rcases List.mem_cons.1 this with rfl | this
        · cases h
        · rcases List.mem_cons.1 this with rfl | this
          · cases h; rfl
          · rcases List.mem_singleton.1 this with rfl; cases h; rfl
      · cases h)
    (by kernel_rfl) b (t := (.ite (lbNot (lbNot (lbEqS b (lsLit []))))
 (.req []
  (.die (70)))
 (.req [(lbLe (liLit 0) (liLit 0)), (lbLt (liLit 0) (liLen b))]
  (.ite (lbEqI (liShr .u8 (liOfByte (lsAt b (liLit 0))) (liLit 4)) (liLit 4))
   (.ite (lbEqI (liShr .u8 (liOfByte (lsAt b (liLit 0))) (liLit 4)) (liLit 4))
    (.ite (lbNot (lbLe (liLit 20) (liLen b)))
     (.req []
      (.die (70)))
     (.ite (r4dies b)
      (.req [(lbLe (liLit 20) (liLen b))]
       (.die (r4code b)))
      (.req [(lbLe (liLit 20) (liLen b))]
       (.ret (.tup [.agg (encPkt true (r4pkt b)), .s (.int .i64 (.lit 0))]) (encPkt true (r4pkt b))))))
    (.ite (lbNot (lbLe (liLit 40) (liLen b)))
     (.req []
      (.die (70)))
     (.ite (r6short b)
      (.req [(lbLit false)]
       (.die (72)))
      (.req [(lbLit false)]
       (.ret (.tup [.agg (encPkt true (r4pkt b)), .s (.int .i64 (.lit 0))]) (encPkt true (r4pkt b)))))))
   (.ite (lbNot (lbEqI (liShr .u8 (liOfByte (lsAt b (liLit 0))) (liLit 4)) (liLit 6)))
    (.req []
     (.die (71)))
    (.ite (lbEqI (liShr .u8 (liOfByte (lsAt b (liLit 0))) (liLit 4)) (liLit 4))
     (.ite (lbNot (lbLe (liLit 20) (liLen b)))
      (.req []
       (.die (70)))
      (.ite (r4dies b)
       (.req [(lbLe (liLit 20) (liLen b))]
        (.die (r4code b)))
       (.req [(lbLe (liLit 20) (liLen b))]
        (.ret (.tup [.agg (encPkt true (r4pkt b)), .s (.int .i64 (.lit 0))]) (encPkt true (r4pkt b))))))
     (.ite (lbNot (lbLe (liLit 40) (liLen b)))
      (.req []
       (.die (70)))
      (.ite (r6short b)
       (.req [(lbLit false)]
        (.die (72)))
       (.req [(lbLit false)]
        (.ret (.tup [.agg (encPkt true (r4pkt b)), .s (.int .i64 (.lit 0))]) (encPkt true (r4pkt b)))))))))))) (by kernel_rfl) ?_
  have hve : liShr .u8 (liOfByte (lsAt b (liLit 0))) (liLit 4) = verOf b := rfl
  simp only [hve]
  have hlen : liLen b = (b.length : Int) := rfl
  have hne : b ≠ [] → ∀ q ∈ [lbLe (liLit 0) (liLit 0), lbLt (liLit 0) (liLen b)], q = true := by
    intro h
    have : 0 < b.length := List.length_pos_iff.2 h
    refine List.forall_mem_cons.2 ⟨by decide, List.forall_mem_cons.2 ⟨?_, fun _ h => nomatch h⟩⟩
    rw [lbLt_t, hlen]; show (0 : Int) < _; omega
  have hd : r4dies b = true → ∃ e, r4err b = some e ∧ r4code b = e ∧ 20 ≤ b.length := by
    intro h
    simp only [r4dies, Bool.and_eq_true, decide_eq_true_eq] at h
    obtain ⟨e, he⟩ := Option.isSome_iff_exists.1 h.2
    exact ⟨e, he, by simp [r4code, he], h.1⟩
  have hz : fParseP b = zPkt ∨ (b ≠ [] ∧ verOf b = 4 ∧ 20 ≤ b.length ∧ r4err b = none) := by
    unfold fParseP
    split
    · rename_i h; exact .inr h
    · exact .inl rfl
  have four : b ≠ [] → verOf b = 4 → (Tr.ite (lbNot (lbLe (liLit 20) (liLen b))) (.req [] (.die 70)) (.ite (r4dies b) (.req [lbLe (liLit 20) (liLen b)] (.die (r4code b))) (.req [lbLe (liLit 20) (liLen b)] (.ret (.tup [.agg (encPkt true (r4pkt b)), .s (.int .i64 (.lit 0))]) [])))).holds
      (fun d _ => d.norm = (D.tup [.agg (encPkt true (fParseP b)), .s (.int .i64 (.sym (fParseC b)))]).norm) (fun n => inR .i64 n ∧ (D.tup [.agg z27, .s (.int .i64 (.sym n))]).norm = (D.tup [.agg (encPkt true (fParseP b)), .s (.int .i64 (.sym (fParseC b)))]).norm) (fun _ _ _ => False) := by
    intro h0 hv
    refine ⟨fun h => ⟨fun _ h => (nomatch h), ?_⟩, fun h => ⟨fun h5 => ⟨?_, ?_⟩, fun h5 => ⟨?_, ?_⟩⟩⟩
    · rw [lbNot_t, lbLe_f] at h
      have hl : (b.length : Int) < 20 := h
      refine dieP 70 _ _ (by omega) ?_ ?_
      · rcases hz with h | h
        · exact h
        · omega
      · simp only [fParseC, if_neg h0, if_pos hv]; rw [if_pos (by omega)]
    · rw [lbNot_f] at h
      exact List.forall_mem_cons.2 ⟨h, fun _ h => nomatch h⟩
    · obtain ⟨e, he, hc, hl⟩ := hd h5
      have := r4err_in he
      refine dieP _ _ _ (by omega) ?_ ?_
      · rcases hz with h | h
        · exact h
        · rw [he] at h; cases h.2.2.2
      · simp only [fParseC, if_neg h0, if_pos hv]; rw [if_neg (by omega), he, hc]; rfl
    · rw [lbNot_f] at h
      exact List.forall_mem_cons.2 ⟨h, fun _ h => nomatch h⟩
    · rw [lbNot_f, lbLe_t] at h
      have hl : (20 : Int) ≤ (b.length : Int) := h
      have he : r4err b = none := by
        simp only [r4dies, Bool.and_eq_false_iff, decide_eq_false_iff_not] at h5
        rcases h5 with h5 | h5
        · omega
        · simpa using h5
      have e1 : fParseP b = r4pkt b := by unfold fParseP; rw [if_pos ⟨h0, hv, by omega, he⟩]
      have e2 : fParseC b = 0 := by simp only [fParseC, if_neg h0, if_pos hv]; rw [if_neg (by omega), he]; rfl
      rw [e1, e2]; rfl
  have c29z : ∀ {a b c d : Bool}, True := fun {_ _ _ _} => trivial
  refine ⟨fun h0 => ⟨fun _ h => (nomatch h), ?_⟩, fun h0 => ⟨hne ?_, fun h4 => ⟨fun _ => ?_, fun h4' => ?_⟩, fun h4 => ⟨fun h6 => ⟨fun _ h => (nomatch h), ?_⟩, fun h6 => ?_⟩⟩⟩
  · rw [lbNot_t, lbNot_f, lbEqS_t] at h0
    have h0' : b = [] := h0
    refine dieP 70 _ _ (by omega) ?_ ?_
    · rcases hz with h | h
      · exact h
      · exact absurd h0' h.1
    · simp only [fParseC, if_pos h0']
  · rw [lbNot_f, lbNot_t, lbEqS_f] at h0; exact h0
  · rw [lbNot_f, lbNot_t, lbEqS_f] at h0
    exact four h0 (by rw [lbEqI_t] at h4; exact h4)
  · exact absurd (h4.symm.trans h4') (by decide)
  · rw [lbNot_f, lbNot_t, lbEqS_f] at h0
    rw [lbNot_t, lbEqI_f] at h6
    rw [lbEqI_f] at h4
    refine dieP 71 _ _ (by omega) ?_ ?_
    · rcases hz with h | h
      · exact h
      · exact absurd h.2.1 h4
    · have e0 : b ≠ [] := h0
      have e4 : verOf b ≠ 4 := h4
      have e6 : verOf b ≠ 6 := h6
      simp only [fParseC, if_neg e0, if_neg e4, if_neg e6]
  · exfalso
    rw [lbNot_f, lbEqI_t] at h6
    have e6 : verOf b = 6 := h6
    unfold ok29n at hok
    rw [e6] at hok
    exact absurd hok (by decide)
end Go.Adit
