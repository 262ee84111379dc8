/- Part of the proofs of the laws: lemmas and contracts, no statement of its own. -/
import Derived.Test.YtledohjnchnmhaaLawIpB
import Derived.Test.YtledohjnchnmhaaPlainC
set_option linter.unusedVariables false
set_option linter.unusedSimpArgs false
namespace Go.Adit
open Go.RowKit Go.Proofs
set_option maxRecDepth 100000
set_option maxHeartbeats 2000000
theorem build_four {p : Packet} (F : Four p) (hp : p.pay.length ≤ 2 ^ 40) (hs : 20 + p.opts.length + p.pay.length ≤ 65535) : fBuildC p = 0 ∧ fBuildG p = fFour p := by
  have hz := four_size F hp
  have : lbLt 65535 (fSz p) = false := by rw [lbLt_f, hz]; omega
  unfold fBuildC fBuildG fBuild
  rw [if_pos (right_four F), if_neg (by rw [F.s4]; decide), if_neg (by rw [this]; decide)]
  exact ⟨rfl, rfl⟩
theorem build_six {p : Packet} (F : Six p) (hp : p.pay.length ≤ 2 ^ 40) (hs : (chain p p.exts).2.length ≤ 65535) : fBuildC p = 0 ∧ fBuildG p = fSix p := by
  have hz := six_size F hp
  have : lbLt 65535 (liSub .i64 (fSz p) 40) = false := by
    rw [lbLt_f, hz, sub64 (by omega) (by omega)]; omega
  unfold fBuildC fBuildG fBuild
  rw [if_pos (right_six F), if_pos F.s6, if_neg (by rw [this]; decide)]
  exact ⟨rfl, rfl⟩
theorem six_pay {p : Packet} (F : Six p) (hs : (chain p p.exts).2.length ≤ 65535) : p.pay.length ≤ 65535 := by
  have h1 := chain_len F 0 p.exts F.exts
  have h2 := rest0_len F
  omega
/-- what was read is built anew as the bytes that were read -/
theorem again {b : List UInt8} (h : fPC b = 0) : (fPP b).pay.length ≤ 65535 ∧ fRight (fPP b) = true ∧ fBuildC (fPP b) = 0 ∧ ∃ n : Nat, fSize (fPP b) = (n : Int) ∧ n ≤ b.length ∧ fBuildG (fPP b) = b.take n := by
  unfold fPC at h
  by_cases h0 : b = []
  · rw [if_pos h0] at h; cases h
  rw [if_neg h0] at h
  by_cases h4 : verOf b = 4
  · rw [if_pos h4] at h
    by_cases hl : b.length < 20
    · rw [if_pos hl] at h; cases h
    rw [if_neg hl] at h
    cases he : r4err b with
    | some e => rw [he] at h; exact absurd h (r4err_ne0 he)
    | none =>
      have hP : fPP b = r4pkt b := by unfold fPP; rw [if_pos ⟨h0, h4, by omega, he⟩]
      obtain ⟨F, hsz, hle, h65, hb⟩ := four_again (by omega) h4 he
      rw [hP]
      obtain ⟨c1, c2⟩ := build_four F (by omega) (by omega)
      refine ⟨by omega, right_four F, c1, num b 2 2, ?_, hle, by rw [c2, hb]⟩
      have : fSize (r4pkt b) = fSz (r4pkt b) := by unfold fSize; rw [if_pos (right_four F)]; rfl
      rw [this, four_size F (by omega), hsz]
  · rw [if_neg h4] at h
    by_cases h6 : verOf b = 6
    · rw [if_pos h6] at h
      by_cases hl : b.length < 40
      · rw [if_pos hl] at h; cases h
      rw [if_neg hl] at h
      cases hb : r6bad b with
      | true => have := r6code_in hb; omega
      | false =>
        have hg := r6_good hb
        have hP : fPP b = r6pkt b := by unfold fPP; rw [if_neg (fun x => h4 x.2.1), if_pos ⟨h0, h6, by omega⟩]
        obtain ⟨F, hs, hle, hbb⟩ := six_again (by omega) h6 hg
        have hp := six_pay F hs
        rw [hP]
        obtain ⟨c1, c2⟩ := build_six F (by omega) hs
        refine ⟨hp, right_six F, c1, 40 + (chain (r6pkt b) (r6pkt b).exts).2.length, ?_, hle, by rw [c2, hbb]⟩
        have : fSize (r6pkt b) = fSz (r6pkt b) := by unfold fSize; rw [if_pos (right_six F)]; rfl
        rw [this, six_size F (by omega)]
    · rw [if_neg h6] at h; cases h
theorem fPC_in {b : List UInt8} (h : fPC b ≠ 0) : fPC b = 70 ∨ fPC b = 71 ∨ fPC b = 72 ∨ fPC b = 73 ∨ fPC b = 74 := by
  unfold fPC at *
  by_cases h0 : b = []
  · rw [if_pos h0]; omega
  rw [if_neg h0] at h ⊢
  by_cases h4 : verOf b = 4
  · rw [if_pos h4] at h ⊢
    by_cases hl : b.length < 20
    · rw [if_pos hl]; omega
    rw [if_neg hl] at h ⊢
    cases he : r4err b with
    | some e =>
      have := r4err_in he
      show e = 70 ∨ e = 71 ∨ e = 72 ∨ e = 73 ∨ e = 74
      omega
    | none => rw [he] at h; exact absurd rfl h
  · rw [if_neg h4] at h ⊢
    by_cases h6 : verOf b = 6
    · rw [if_pos h6] at h ⊢
      by_cases hl : b.length < 40
      · rw [if_pos hl]; omega
      rw [if_neg hl] at h ⊢
      cases hb : r6bad b with
      | true => have := r6code_in hb; omega
      | false => exact absurd (by unfold r6code; rw [r6_good hb]) h
    · rw [if_neg h6]; omega
theorem con6 (b : List UInt8) : Con Try.prog 6 [.s (.str b)] (.s (.bool (.sym true))) :=
  con_flat tryBase (es := es5) es5_ok Try.func6 (by kernel_rfl) (by kernel_rfl) (by kernel_rfl) (by kernel_rfl) (by kernel_rfl)
  (t := t6 b) (by kernel_rfl) (by
  unfold t6
  by_cases hC : fPC b = 0
  · obtain ⟨h1, _, h2, n, h3, h4, h5⟩ := again hC
    have c1 : lbNot (lbEqI (fPC b) (liLit 0)) = false := by rw [lbNot_f, lbEqI_t]; exact hC
    have c2 : lbEqI (fBuildC (fPP b)) (liLit 0) = true := by rw [lbEqI_t]; exact h2
    have c3 : lbLe (fSize (fPP b)) (liLen b) = true := by rw [lbLe_t, h3]; show (n : Int) ≤ (b.length : Int); omega
    have c4 : lbLe (liLit 0) (fSize (fPP b)) = true := by rw [lbLe_t, h3]; show (0 : Int) ≤ (n : Int); omega
    refine ⟨fun h => (by rw [c1] at h; cases h), fun _ => ⟨one_q (by unfold fPayOk; exact decide_eq_true (by omega)), fun _ => ⟨fun _ => ⟨two_q c4 c3, retb ?_⟩, fun h => (by rw [c3] at h; cases h)⟩, fun h => (by rw [c2] at h; cases h)⟩⟩
    rw [lbEqS_t, h5, h3]
    show b.take n = (b.take n).drop 0
    rw [List.drop_zero]
  · have c1 : lbNot (lbEqI (fPC b) (liLit 0)) = true := by rw [lbNot_t, lbEqI_f]; exact hC
    have hz := fPP_bad hC
    have k1 : lbEqS (fPP b).pay (lsLit []) = true := by rw [hz]; rfl
    have k2 : lbEqI (liLenX (fPP b).exts) (liLit 0) = true := by rw [hz]; rfl
    refine ⟨fun _ => ⟨fun _ => ⟨fun _ => ?_, fun h => (by rw [k2] at h; cases h)⟩, fun h => (by rw [k1] at h; cases h)⟩, fun h => (by rw [c1] at h; cases h)⟩
    refine ⟨fun _ => rfl, fun a1 => ⟨fun _ => rfl, fun a2 => ⟨fun _ => rfl, fun a3 => ⟨fun _ => rfl, fun a4 => retb ?_⟩⟩⟩⟩
    rw [lbEqI_f] at a1 a2 a3 a4
    rw [lbEqI_t]
    rcases fPC_in hC with e | e | e | e | e
    · exact absurd e a1
    · exact absurd e a2
    · exact absurd e a3
    · exact absurd e a4
    · exact e)
end Go.Adit
