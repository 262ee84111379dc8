/- Part of the proofs of the laws: lemmas and contracts, no statement of its own. -/
import Derived.Test.YtledohjnchnmhaaSp
set_option linter.unusedVariables false
set_option linter.unusedSimpArgs false
namespace Go.Adit
open Go.RowKit Go.Proofs
set_option maxRecDepth 100000
theorem con63 : Con63 := fun a0 a1 => con_flat tryBase (es := []) (fun _ h => nomatch h) Try.func63 (by kernel_rfl) (by kernel_rfl) (by kernel_rfl) (by kernel_rfl) (by kernel_rfl)
  (t := (.ite (lbLe (liLit 0) a0)
 (.ret (.s (.bool (.sym (lbLe a0 a1)))) [])
 (.ret (.s (.bool (.lit false))) []))) (by kernel_rfl) (by
  by_cases h0 : (0 : Int) ≤ a0 <;> by_cases h1 : a0 ≤ a1 <;> simp [Tr.holds, D.norm, D.norm1, SC.norm, fUpto, lbLe, liLit, BV.lb, lbLit, h0, h1])
theorem con64 : Con64 := fun a0 => con_flat tryBase (es := []) (fun _ h => nomatch h) Try.func64 (by kernel_rfl) (by kernel_rfl) (by kernel_rfl) (by kernel_rfl) (by kernel_rfl)
  (t := (.ite (lbEqI a0 (liLit 0))
 (.ite (lbEqI a0 (liLit 0))
  (.ret (.s (.bool (.lit true))) [])
  (.ret (.s (.bool (.lit false))) []))
 (.ite (lbEqI a0 (liLit 43))
  (.ite (lbEqI a0 (liLit 43))
   (.ret (.s (.bool (.lit true))) [])
   (.ret (.s (.bool (.lit false))) []))
  (.ite (lbEqI a0 (liLit 44))
   (.ite (lbEqI a0 (liLit 44))
    (.ret (.s (.bool (.lit true))) [])
    (.ret (.s (.bool (.lit false))) []))
   (.ite (lbEqI a0 (liLit 60))
    (.ret (.s (.bool (.lit true))) [])
    (.ret (.s (.bool (.lit false))) [])))))) (by kernel_rfl) (by
  simp only [Tr.holds, D.norm, D.norm1, SC.norm, fSpecial, lbEqI, liLit, BV.lb, lbLit]
  cases a0 == 0 <;> cases a0 == 43 <;> cases a0 == 44 <;> cases a0 == 60 <;> simp)
theorem con57 : Con57 := fun a0 a1 => con_flat tryBase (es := []) (fun _ h => nomatch h) Try.func57 (by kernel_rfl) (by kernel_rfl) (by kernel_rfl) (by kernel_rfl) (by kernel_rfl)
  (t := (.ite a0
 (.ret (.s (.int .i64 (.sym a1))) [])
 (.ret (.s (.int .i64 (.lit 0))) []))) (by kernel_rfl) (by
  cases a0 <;> simp [Tr.holds, D.norm, D.norm1, SC.norm, fFlag, IV.li, liLit])
theorem con105 : Con105 := fun a0 a1 a2 a3 => con_flat tryBase (es := []) (fun _ h => nomatch h) Try.func105 (by kernel_rfl) (by kernel_rfl) (by kernel_rfl) (by kernel_rfl) (by kernel_rfl)
  (t := (.ret (.agg [.bool (.lit false), .byte a0, .byte a1, .byte a2, .byte a3, .int .u8 (.lit 0), .int .u8 (.lit 0), .int .u8 (.lit 0), .int .u8 (.lit 0), .int .u8 (.lit 0), .int .u8 (.lit 0), .int .u8 (.lit 0), .int .u8 (.lit 0), .int .u8 (.lit 0), .int .u8 (.lit 0), .int .u8 (.lit 0), .int .u8 (.lit 0)]) [])) (by kernel_rfl) (by
  simp [Tr.holds, D.norm, D.norm1, SC.norm, fV4, encAddr, BV.lb, lbLit, IV.li, liLit])
theorem con44 : Con44 := fun a0 => con_flat tryBase (es := [e105]) (by intro e he; rcases List.mem_singleton.1 he with rfl; exact ok105 con105) Try.func44 (by kernel_rfl) (by kernel_rfl) (by kernel_rfl) (by kernel_rfl) (by kernel_rfl)
  (t := (.ite a0.v6
 (.ret (.s (.bool (.lit true))) [])
 (.ret (.s (.bool (.sym (lbAnd (lbEqB a0.v6 (fV4 a0.b0 a0.b1 a0.b2 a0.b3).v6) (lbAnd (lbEqI (liOfByte a0.b0) (liOfByte (fV4 a0.b0 a0.b1 a0.b2 a0.b3).b0)) (lbAnd (lbEqI (liOfByte a0.b1) (liOfByte (fV4 a0.b0 a0.b1 a0.b2 a0.b3).b1)) (lbAnd (lbEqI (liOfByte a0.b2) (liOfByte (fV4 a0.b0 a0.b1 a0.b2 a0.b3).b2)) (lbAnd (lbEqI (liOfByte a0.b3) (liOfByte (fV4 a0.b0 a0.b1 a0.b2 a0.b3).b3)) (lbAnd (lbEqI (liOfByte a0.b4) (liOfByte (fV4 a0.b0 a0.b1 a0.b2 a0.b3).b4)) (lbAnd (lbEqI (liOfByte a0.b5) (liOfByte (fV4 a0.b0 a0.b1 a0.b2 a0.b3).b5)) (lbAnd (lbEqI (liOfByte a0.b6) (liOfByte (fV4 a0.b0 a0.b1 a0.b2 a0.b3).b6)) (lbAnd (lbEqI (liOfByte a0.b7) (liOfByte (fV4 a0.b0 a0.b1 a0.b2 a0.b3).b7)) (lbAnd (lbEqI (liOfByte a0.b8) (liOfByte (fV4 a0.b0 a0.b1 a0.b2 a0.b3).b8)) (lbAnd (lbEqI (liOfByte a0.b9) (liOfByte (fV4 a0.b0 a0.b1 a0.b2 a0.b3).b9)) (lbAnd (lbEqI (liOfByte a0.b10) (liOfByte (fV4 a0.b0 a0.b1 a0.b2 a0.b3).b10)) (lbAnd (lbEqI (liOfByte a0.b11) (liOfByte (fV4 a0.b0 a0.b1 a0.b2 a0.b3).b11)) (lbAnd (lbEqI (liOfByte a0.b12) (liOfByte (fV4 a0.b0 a0.b1 a0.b2 a0.b3).b12)) (lbAnd (lbEqI (liOfByte a0.b13) (liOfByte (fV4 a0.b0 a0.b1 a0.b2 a0.b3).b13)) (lbAnd (lbEqI (liOfByte a0.b14) (liOfByte (fV4 a0.b0 a0.b1 a0.b2 a0.b3).b14)) (lbEqI (liOfByte a0.b15) (liOfByte (fV4 a0.b0 a0.b1 a0.b2 a0.b3).b15))))))))))))))))))))) []))) (by kernel_rfl) (by
  have e : ∀ (x y : UInt8), lbEqI (liOfByte x) (liOfByte y) = (x == y) := fun x y => by
    simp only [lbEqI, liOfByte]
    rw [Bool.eq_iff_iff]
    simp [← UInt8.toNat_inj]
    omega
  simp only [Tr.holds, D.norm, D.norm1, SC.norm, BV.lb, lbLit, e, fValid, fV4, lbAnd, lbEqB]
  cases h : a0.v6 <;> simp [Bool.and_assoc])
end Go.Adit
