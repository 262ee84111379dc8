/- Part of the proofs of the laws: lemmas and contracts, no statement of its own. -/
import Derived.Test.YtledohjnchnmhaaParseG
import Derived.Test.YtledohjnchnmhaaR6
set_option linter.unusedVariables false
set_option linter.unusedSimpArgs false
namespace Go.Adit
open Go.RowKit Go.Proofs
set_option maxRecDepth 100000
set_option maxHeartbeats 4000000
def r6code (b : List UInt8) : Int := match r6of b with | .bad e => e | .good _ => 0
def r6pkt (b : List UInt8) : Packet := match r6of b with | .bad _ => zPkt | .good q => q
def r6bad (b : List UInt8) : Bool := match r6of b with | .bad _ => true | .good _ => false
def r6dies (b : List UInt8) : Bool := decide (40 ≤ b.length) && r6bad b
theorem r6_bad {b : List UInt8} (h : r6bad b = true) : r6of b = .bad (r6code b) := by
  unfold r6bad at h; unfold r6code; cases e : r6of b with
  | bad e => rfl
  | good q => rw [e] at h; cases h
theorem r6_good {b : List UInt8} (h : r6bad b = false) : r6of b = .good (r6pkt b) := by
  unfold r6bad at h; unfold r6pkt; cases e : r6of b with
  | bad e => rw [e] at h; cases h
  | good q => rfl
def m77 : List SC → List D → Option (D × List SC × List Bool)
  | [.str b, .int .i64 (.lit 0)], [] => some (.agg (encPkt true (r6pkt b)), [.str b, .int .i64 (.sym (r6end b))], [lbLe (liLit 40) (liLen b)])
  | _, _ => none
def d77 : List SC → List D → Option (BV × Int)
  | [.str b, .int .i64 (.lit 0)], [] => some (.sym (r6dies b), r6code b)
  | _, _ => none
def e77 : Entry := ⟨77, some 2, noCall, m77, d77⟩
theorem ok77 : EntryOK Try.prog e77 := by
  constructor
  · intro args r req h1; cases h1
  · intro cells args r cells' req h1 h2 h3 h4
    simp only [e77] at h2 h3
    unfold m77 at h3
    split at h3
    · rename_i b
      simp only [Option.some.injEq, Prod.mk.injEq] at h3
      obtain ⟨rfl, rfl, rfl⟩ := h3
      have hl : 40 ≤ b.length := by
        have := h4 _ (.head _)
        rw [lbLe_t] at this
        have : (40 : Int) ≤ (b.length : Int) := this
        omega
      have hd : r6dies b = false := h2 (.sym (r6dies b)) (r6code b) rfl
      unfold r6dies at hd
      simp only [hl, decide_true, Bool.true_and] at hd
      exact con77 b hl _ (r6_good hd)
    · cases h3
  · intro args b n h1; cases h1
  · intro cells args bv n h1 h2 h3
    simp only [e77] at h2
    unfold d77 at h2
    split at h2
    · rename_i b
      simp only [Option.some.injEq, Prod.mk.injEq] at h2
      obtain ⟨rfl, rfl⟩ := h2
      have h3' : r6dies b = true := h3
      unfold r6dies at h3'
      simp only [Bool.and_eq_true, decide_eq_true_eq] at h3'
      exact die77 b h3'.1 _ (r6_bad h3'.2)
    · cases h2
/-- the error of a reading, and the packet -/
def fPC (b : List UInt8) : Int := if b = [] then 70 else if verOf b = 4 then (if b.length < 20 then 70 else (r4err b).getD 0) else if verOf b = 6 then (if b.length < 40 then 70 else r6code b) else 71
def fPP (b : List UInt8) : Packet := if b ≠ [] ∧ verOf b = 4 ∧ 20 ≤ b.length ∧ r4err b = none then r4pkt b else if b ≠ [] ∧ verOf b = 6 ∧ 40 ≤ b.length then r6pkt b else zPkt
theorem r6fin_in (p : Packet) (k : Int) (l : List Ext) (x : List UInt8) (a : Int) {e : Int} (h : r6fin p k l x a = .bad e) : e = 72 ∨ e = 74 := by
  unfold r6fin at h
  repeat' split at h
  all_goals first | (cases h; omega) | cases h
theorem r6loop_in (p : Packet) (x : List UInt8) {e : Int} : ∀ (n : Nat) (k : Int) (l : List Ext) (a : Int), r6loop p x n k l a = .bad e → e = 72 ∨ e = 74 := by
  intro n
  induction n with
  | zero =>
    intro k l a h
    rw [r6_0] at h
    split at h
    · cases h; omega
    · exact r6fin_in _ _ _ _ _ h
  | succ n ih =>
    intro k l a h
    rw [r6_s] at h
    repeat' split at h
    all_goals first | (cases h; omega) | exact ih _ _ _ h | exact r6fin_in _ _ _ _ _ h
theorem r6code_in {b : List UInt8} (h : r6bad b = true) : r6code b = 72 ∨ r6code b = 74 := by
  have := r6_bad h
  unfold r6of at this
  split at this
  · cases hc : r6code b <;> (injection this with this; omega)
  · exact r6loop_in _ _ _ _ _ _ this
theorem con29 (b : List UInt8) : Con Try.prog 29 [.s (.str b)] (.tup [.agg (encPkt true (fPP b)), .s (.int .i64 (.sym (fPC b)))]) := by
  refine con29_of (es := [e75, e76, e77]) (by intro e he; rcases List.mem_cons.1 he with rfl | he; exact ok75; rcases List.mem_cons.1 he with rfl | he; exact ok76; rcases List.mem_singleton.1 he with rfl; exact ok77)
    (fun f k h => by
      unfold eLent at h
      split at h
      · rename_i e he
        have := (findE_of he).1
        rcases List.mem_cons.1 this with rfl | this
        · cases h
        · rcases List.mem_cons.1 this with rfl | this
          · cases h; rfl
          · rcases List.mem_singleton.1 this with rfl; cases h; rfl
      · cases h)
    (by kernel_rfl) b (t := (.ite (lbNot (lbNot (lbEqS b (lsLit []))))
 (.req []
  (.die (70)))
 (.req [(lbLe (liLit 0) (liLit 0)), (lbLt (liLit 0) (liLen b))]
  (.ite (lbEqI (liShr .u8 (liOfByte (lsAt b (liLit 0))) (liLit 4)) (liLit 4))
   (.ite (lbEqI (liShr .u8 (liOfByte (lsAt b (liLit 0))) (liLit 4)) (liLit 4))
    (.ite (lbNot (lbLe (liLit 20) (liLen b)))
     (.req []
      (.die (70)))
     (.ite (r4dies b)
      (.req [(lbLe (liLit 20) (liLen b))]
       (.die (r4code b)))
      (.req [(lbLe (liLit 20) (liLen b))]
       (.ret (.tup [.agg (encPkt true (r4pkt b)), .s (.int .i64 (.lit 0))]) (encPkt true (r4pkt b))))))
    (.ite (lbNot (lbLe (liLit 40) (liLen b)))
     (.req []
      (.die (70)))
     (.ite (r6dies b)
      (.req [(lbLe (liLit 40) (liLen b))]
       (.die (r6code b)))
      (.req [(lbLe (liLit 40) (liLen b))]
       (.ret (.tup [.agg (encPkt true (r6pkt b)), .s (.int .i64 (.lit 0))]) (encPkt true (r6pkt b)))))))
   (.ite (lbNot (lbEqI (liShr .u8 (liOfByte (lsAt b (liLit 0))) (liLit 4)) (liLit 6)))
    (.req []
     (.die (71)))
    (.ite (lbEqI (liShr .u8 (liOfByte (lsAt b (liLit 0))) (liLit 4)) (liLit 4))
     (.ite (lbNot (lbLe (liLit 20) (liLen b)))
      (.req []
       (.die (70)))
      (.ite (r4dies b)
       (.req [(lbLe (liLit 20) (liLen b))]
        (.die (r4code b)))
       (.req [(lbLe (liLit 20) (liLen b))]
        (.ret (.tup [.agg (encPkt true (r4pkt b)), .s (.int .i64 (.lit 0))]) (encPkt true (r4pkt b))))))
     (.ite (lbNot (lbLe (liLit 40) (liLen b)))
      (.req []
       (.die (70)))
      (.ite (r6dies b)
       (.req [(lbLe (liLit 40) (liLen b))]
        (.die (r6code b)))
       (.req [(lbLe (liLit 40) (liLen b))]
        (.ret (.tup [.agg (encPkt true (r6pkt b)), .s (.int .i64 (.lit 0))]) (encPkt true (r6pkt b)))))))))))) (by kernel_rfl) ?_
  have hve : liShr .u8 (liOfByte (lsAt b (liLit 0))) (liLit 4) = verOf b := rfl
  simp only [hve]
  have hlen : liLen b = (b.length : Int) := rfl
  have hne : b ≠ [] → ∀ q ∈ [lbLe (liLit 0) (liLit 0), lbLt (liLit 0) (liLen b)], q = true := by
    intro h
    have : 0 < b.length := List.length_pos_iff.2 h
    refine List.forall_mem_cons.2 ⟨by decide, List.forall_mem_cons.2 ⟨?_, fun _ h => nomatch h⟩⟩
    rw [lbLt_t, hlen]; show (0 : Int) < _; omega
  have hd : r4dies b = true → ∃ e, r4err b = some e ∧ r4code b = e ∧ 20 ≤ b.length := by
    intro h
    simp only [r4dies, Bool.and_eq_true, decide_eq_true_eq] at h
    obtain ⟨e, he⟩ := Option.isSome_iff_exists.1 h.2
    exact ⟨e, he, by simp [r4code, he], h.1⟩
  have P0 : b = [] → fPP b = zPkt ∧ fPC b = 70 := by
    intro h; simp only [fPP, fPC, if_pos h]; rw [if_neg (fun h' => h'.1 h), if_neg (fun h' => h'.1 h)]; exact ⟨rfl, trivial⟩
  have P4 : b ≠ [] → verOf b = 4 → fPP b = (if 20 ≤ b.length ∧ r4err b = none then r4pkt b else zPkt) ∧ fPC b = if b.length < 20 then 70 else (r4err b).getD 0 := by
    intro h hv
    refine ⟨?_, by simp only [fPC, if_neg h, if_pos hv]⟩
    unfold fPP
    by_cases h' : 20 ≤ b.length ∧ r4err b = none
    · rw [if_pos ⟨h, hv, h'⟩, if_pos h']
    · rw [if_neg (fun x => h' x.2.2), if_neg (fun x => absurd (hv.symm.trans x.2.1) (by decide)), if_neg h']
  have P6 : b ≠ [] → verOf b ≠ 4 → verOf b = 6 → fPP b = (if 40 ≤ b.length then r6pkt b else zPkt) ∧ fPC b = if b.length < 40 then 70 else r6code b := by
    intro h h4 hv
    refine ⟨?_, by simp only [fPC, if_neg h, if_neg h4, if_pos hv]⟩
    unfold fPP
    rw [if_neg (fun x => h4 x.2.1)]
    by_cases h' : 40 ≤ b.length
    · rw [if_pos ⟨h, hv, h'⟩, if_pos h']
    · rw [if_neg (fun x => h' x.2.2), if_neg h']
  have PX : b ≠ [] → verOf b ≠ 4 → verOf b ≠ 6 → fPP b = zPkt ∧ fPC b = 71 := by
    intro h h4 h6
    refine ⟨?_, by simp only [fPC, if_neg h, if_neg h4, if_neg h6]⟩
    unfold fPP
    rw [if_neg (fun x => h4 x.2.1), if_neg (fun x => h6 x.2.1)]
  refine ⟨fun h0 => ⟨fun _ h => (nomatch h), ?_⟩, fun h0 => ⟨hne ?_, fun h4 => ⟨fun _ => ?_, fun h4' => ?_⟩, fun h4 => ⟨fun h6 => ⟨fun _ h => (nomatch h), ?_⟩, fun h6 => ⟨fun h4' => absurd (h4'.symm.trans h4) (by decide), fun _ => ?_⟩⟩⟩⟩
  · rw [lbNot_t, lbNot_f, lbEqS_t] at h0
    obtain ⟨e1, e2⟩ := P0 h0
    exact dieP 70 _ _ (by omega) e1 e2
  · rw [lbNot_f, lbNot_t, lbEqS_f] at h0; exact h0
  · rw [lbNot_f, lbNot_t, lbEqS_f] at h0
    have hv : verOf b = 4 := by rw [lbEqI_t] at h4; exact h4
    obtain ⟨e1, e2⟩ := P4 h0 hv
    refine ⟨fun h => ⟨fun _ h => (nomatch h), ?_⟩, fun h => ⟨fun h5 => ⟨?_, ?_⟩, fun h5 => ⟨?_, ?_⟩⟩⟩
    · rw [lbNot_t, lbLe_f] at h
      have hl : (b.length : Int) < 20 := h
      exact dieP 70 _ _ (by omega) (by rw [e1, if_neg (by omega)]) (by rw [e2, if_pos (by omega)])
    · rw [lbNot_f] at h
      exact List.forall_mem_cons.2 ⟨h, fun _ h => nomatch h⟩
    · obtain ⟨e, he, hc, hl⟩ := hd h5
      have := r4err_in he
      exact dieP _ _ _ (by omega) (by rw [e1, he, if_neg (fun h => nomatch h.2)]) (by rw [e2, if_neg (by omega), he, hc]; rfl)
    · rw [lbNot_f] at h
      exact List.forall_mem_cons.2 ⟨h, fun _ h => nomatch h⟩
    · rw [lbNot_f, lbLe_t] at h
      have hl : (20 : Int) ≤ (b.length : Int) := h
      have he : r4err b = none := by
        simp only [r4dies, Bool.and_eq_false_iff, decide_eq_false_iff_not] at h5
        rcases h5 with h5 | h5
        · omega
        · simpa using h5
      rw [e1, e2, if_pos ⟨by omega, he⟩, if_neg (by omega), he]; rfl
  · exact absurd (h4.symm.trans h4') (by decide)
  · rw [lbNot_f, lbNot_t, lbEqS_f] at h0
    rw [lbNot_t, lbEqI_f] at h6
    rw [lbEqI_f] at h4
    obtain ⟨e1, e2⟩ := PX h0 h4 h6
    exact dieP 71 _ _ (by omega) e1 e2
  · rw [lbNot_f, lbNot_t, lbEqS_f] at h0
    rw [lbNot_f, lbEqI_t] at h6
    rw [lbEqI_f] at h4
    obtain ⟨e1, e2⟩ := P6 h0 h4 h6
    refine ⟨fun h => ⟨fun _ h => (nomatch h), ?_⟩, fun h => ⟨fun h5 => ⟨?_, ?_⟩, fun h5 => ⟨?_, ?_⟩⟩⟩
    · rw [lbNot_t, lbLe_f] at h
      have hl : (b.length : Int) < 40 := h
      exact dieP 70 _ _ (by omega) (by rw [e1, if_neg (by omega)]) (by rw [e2, if_pos (by omega)])
    · rw [lbNot_f] at h
      exact List.forall_mem_cons.2 ⟨h, fun _ h => nomatch h⟩
    · simp only [r6dies, Bool.and_eq_true, decide_eq_true_eq] at h5
      have := r6code_in h5.2
      exact dieP _ _ _ (by omega) (by rw [e1, if_pos h5.1]; unfold r6pkt; rw [r6_bad h5.2]) (by rw [e2, if_neg (by omega)])
    · rw [lbNot_f] at h
      exact List.forall_mem_cons.2 ⟨h, fun _ h => nomatch h⟩
    · rw [lbNot_f, lbLe_t] at h
      have hl : (40 : Int) ≤ (b.length : Int) := h
      have hb : r6bad b = false := by
        simp only [r6dies, Bool.and_eq_false_iff, decide_eq_false_iff_not] at h5
        rcases h5 with h5 | h5
        · omega
        · exact h5
      have hc : r6code b = 0 := by unfold r6code; rw [r6_good hb]
      rw [e1, e2, if_pos (by omega), if_neg (by omega), hc]; rfl
end Go.Adit
