/- Part of the proofs of the laws: lemmas and contracts, no statement of its own. -/
import Derived.Test.YtledohjnchnmhaaF1
set_option linter.unusedVariables false
set_option linter.unusedSimpArgs false
namespace Go.Adit
open Go.RowKit Go.Proofs
set_option maxRecDepth 100000
theorem con55 : Con55 := fun a0 => con_flat tryBase (es := [e44]) (by intro e he; rcases List.mem_singleton.1 he with rfl; exact ok44 con44) Try.func55 (by kernel_rfl) (by kernel_rfl) (by kernel_rfl) (by kernel_rfl) (by kernel_rfl)
  (t := (.ite a0.v6
 (.ret (.s (.str (lsOf [a0.b0, a0.b1, a0.b2, a0.b3, a0.b4, a0.b5, a0.b6, a0.b7, a0.b8, a0.b9, a0.b10, a0.b11, a0.b12, a0.b13, a0.b14, a0.b15]))) [])
 (.ite (fValid a0)
  (.ret (.s (.str (lsOf [a0.b0, a0.b1, a0.b2, a0.b3]))) [])
  (.ret (.s (.str (lsLit []))) [])))) (by kernel_rfl) (by
  simp only [Tr.holds, D.norm, D.norm1, SC.norm, fBytes, lsOf, lsLit]
  refine ⟨fun h => by rw [h]; rfl, fun h => ⟨fun h1 => by rw [h, h1]; rfl, fun h1 => by rw [h, h1]; rfl⟩⟩)

theorem con65 : Con65 := fun a0 => con_flat tryBase (es := []) (fun _ h => nomatch h) Try.func65 (by kernel_rfl) (by kernel_rfl) (by kernel_rfl) (by kernel_rfl) (by kernel_rfl)
  (t := (.ite (lbNot a0.v6)
 (.ite (lbNot (lbEqI (liOfByte a0.b4) (liLit 0)))
  (.ret (.s (.bool (.lit false))) [])
  (.ite (lbNot a0.v6)
   (.ite (lbNot (lbEqI (liOfByte a0.b5) (liLit 0)))
    (.ret (.s (.bool (.lit false))) [])
    (.ite (lbNot a0.v6)
     (.ite (lbNot (lbEqI (liOfByte a0.b6) (liLit 0)))
      (.ret (.s (.bool (.lit false))) [])
      (.ite (lbNot a0.v6)
       (.ite (lbNot (lbEqI (liOfByte a0.b7) (liLit 0)))
        (.ret (.s (.bool (.lit false))) [])
        (.ite (lbNot a0.v6)
         (.ite (lbNot (lbEqI (liOfByte a0.b8) (liLit 0)))
          (.ret (.s (.bool (.lit false))) [])
          (.ite (lbNot a0.v6)
           (.ite (lbNot (lbEqI (liOfByte a0.b9) (liLit 0)))
            (.ret (.s (.bool (.lit false))) [])
            (.ite (lbNot a0.v6)
             (.ite (lbNot (lbEqI (liOfByte a0.b10) (liLit 0)))
              (.ret (.s (.bool (.lit false))) [])
              (.ite (lbNot a0.v6)
               (.ite (lbNot (lbEqI (liOfByte a0.b11) (liLit 0)))
                (.ret (.s (.bool (.lit false))) [])
                (.ite (lbNot a0.v6)
                 (.ite (lbNot (lbEqI (liOfByte a0.b12) (liLit 0)))
                  (.ret (.s (.bool (.lit false))) [])
                  (.ite (lbNot a0.v6)
                   (.ite (lbNot (lbEqI (liOfByte a0.b13) (liLit 0)))
                    (.ret (.s (.bool (.lit false))) [])
                    (.ite (lbNot a0.v6)
                     (.ite (lbNot (lbEqI (liOfByte a0.b14) (liLit 0)))
                      (.ret (.s (.bool (.lit false))) [])
                      (.ite (lbNot a0.v6)
                       (.ite (lbNot (lbEqI (liOfByte a0.b15) (liLit 0)))
                        (.ret (.s (.bool (.lit false))) [])
                        (.ret (.s (.bool (.lit true))) []))
                       (.ret (.s (.bool (.lit true))) [])))
                     (.ret (.s (.bool (.lit true))) [])))
                   (.ret (.s (.bool (.lit true))) [])))
                 (.ret (.s (.bool (.lit true))) [])))
               (.ret (.s (.bool (.lit true))) [])))
             (.ret (.s (.bool (.lit true))) [])))
           (.ret (.s (.bool (.lit true))) [])))
         (.ret (.s (.bool (.lit true))) [])))
       (.ret (.s (.bool (.lit true))) [])))
     (.ret (.s (.bool (.lit true))) [])))
   (.ret (.s (.bool (.lit true))) [])))
 (.ret (.s (.bool (.lit true))) []))) (by kernel_rfl) (by
  simp only [Tr.holds, D.norm, D.norm1, SC.norm, BV.lb, eqByte0, lbNot, lbLit, fValid]
  generalize (a0.b4 == 0) = q4
  generalize (a0.b5 == 0) = q5
  generalize (a0.b6 == 0) = q6
  generalize (a0.b7 == 0) = q7
  generalize (a0.b8 == 0) = q8
  generalize (a0.b9 == 0) = q9
  generalize (a0.b10 == 0) = q10
  generalize (a0.b11 == 0) = q11
  generalize (a0.b12 == 0) = q12
  generalize (a0.b13 == 0) = q13
  generalize (a0.b14 == 0) = q14
  generalize (a0.b15 == 0) = q15
  cases a0.v6
  case true => simp
  cases q4
  case false => simp
  cases q5
  case false => simp
  cases q6
  case false => simp
  cases q7
  case false => simp
  cases q8
  case false => simp
  cases q9
  case false => simp
  cases q10
  case false => simp
  cases q11
  case false => simp
  cases q12
  case false => simp
  cases q13
  case false => simp
  cases q14
  case false => simp
  cases q15
  case false => simp
  simp)

theorem con123 : Con123 := fun a0 => con_flat tryBase (es := []) (fun _ h => nomatch h) Try.func123 (by kernel_rfl) (by kernel_rfl) (by kernel_rfl) (by kernel_rfl) (by kernel_rfl)
  (t := (.ret (.s (.bool (.sym (lbAnd (lbEqI (liOfByte a0.b0) (liLit 0)) (lbAnd (lbEqI (liOfByte a0.b1) (liLit 0)) (lbAnd (lbEqI (liOfByte a0.b2) (liLit 0)) (lbAnd (lbEqI (liOfByte a0.b3) (liLit 0)) (lbAnd (lbEqI (liOfByte a0.b4) (liLit 0)) (lbAnd (lbEqI (liOfByte a0.b5) (liLit 0)) (lbAnd (lbEqI (liOfByte a0.b6) (liLit 0)) (lbAnd (lbEqI (liOfByte a0.b7) (liLit 0)) (lbAnd (lbEqI (liOfByte a0.b8) (liLit 0)) (lbAnd (lbEqI (liOfByte a0.b9) (liLit 0)) (lbAnd (lbEqI (liOfByte a0.b10) (liLit 0)) (lbAnd (lbEqI (liOfByte a0.b11) (liLit 0)) (lbAnd (lbEqI (liOfByte a0.b12) (liLit 0)) (lbAnd (lbEqI (liOfByte a0.b13) (liLit 0)) (lbAnd (lbEqI (liOfByte a0.b14) (liLit 0)) (lbEqI (liOfByte a0.b15) (liLit 0)))))))))))))))))))) [])) (by kernel_rfl) (by
  simp only [Tr.holds, D.norm, D.norm1, SC.norm, BV.lb, eqByte0, lbAnd, fNone, Bool.and_assoc])

theorem con124 : Con124 := fun a0 => con_flat tryBase (es := []) (fun _ h => nomatch h) Try.func124 (by kernel_rfl) (by kernel_rfl) (by kernel_rfl) (by kernel_rfl) (by kernel_rfl)
  (t := (.ite (lbNot (lbEqI (liOfByte a0.b0) (liLit 0)))
 (.ret (.s (.bool (.lit false))) [])
 (.ite (lbNot (lbEqI (liOfByte a0.b1) (liLit 0)))
  (.ret (.s (.bool (.lit false))) [])
  (.ite (lbNot (lbEqI (liOfByte a0.b2) (liLit 0)))
   (.ret (.s (.bool (.lit false))) [])
   (.ite (lbNot (lbEqI (liOfByte a0.b3) (liLit 0)))
    (.ret (.s (.bool (.lit false))) [])
    (.ite (lbNot (lbEqI (liOfByte a0.b4) (liLit 0)))
     (.ret (.s (.bool (.lit false))) [])
     (.ite (lbNot (lbEqI (liOfByte a0.b5) (liLit 0)))
      (.ret (.s (.bool (.lit false))) [])
      (.ite (lbNot (lbEqI (liOfByte a0.b6) (liLit 0)))
       (.ret (.s (.bool (.lit false))) [])
       (.ite (lbNot (lbEqI (liOfByte a0.b7) (liLit 0)))
        (.ret (.s (.bool (.lit false))) [])
        (.ite (lbNot (lbEqI (liOfByte a0.b8) (liLit 0)))
         (.ret (.s (.bool (.lit false))) [])
         (.ite (lbNot (lbEqI (liOfByte a0.b9) (liLit 0)))
          (.ret (.s (.bool (.lit false))) [])
          (.ite (lbNot (lbEqI (liOfByte a0.b10) (liLit 0)))
           (.ret (.s (.bool (.lit false))) [])
           (.ite (lbNot (lbEqI (liOfByte a0.b11) (liLit 0)))
            (.ret (.s (.bool (.lit false))) [])
            (.ite (lbNot (lbEqI (liOfByte a0.b12) (liLit 0)))
             (.ret (.s (.bool (.lit false))) [])
             (.ite (lbNot (lbEqI (liOfByte a0.b13) (liLit 0)))
              (.ret (.s (.bool (.lit false))) [])
              (.ite (lbNot (lbEqI (liOfByte a0.b14) (liLit 0)))
               (.ret (.s (.bool (.lit false))) [])
               (.ite (lbNot (lbEqI (liOfByte a0.b15) (liLit 0)))
                (.ret (.s (.bool (.lit false))) [])
                (.ret (.s (.bool (.lit true))) [])))))))))))))))))) (by kernel_rfl) (by
  simp only [Tr.holds, D.norm, D.norm1, SC.norm, BV.lb, eqByte0, lbNot, lbLit, fNone]
  generalize (a0.b0 == 0) = q0
  generalize (a0.b1 == 0) = q1
  generalize (a0.b2 == 0) = q2
  generalize (a0.b3 == 0) = q3
  generalize (a0.b4 == 0) = q4
  generalize (a0.b5 == 0) = q5
  generalize (a0.b6 == 0) = q6
  generalize (a0.b7 == 0) = q7
  generalize (a0.b8 == 0) = q8
  generalize (a0.b9 == 0) = q9
  generalize (a0.b10 == 0) = q10
  generalize (a0.b11 == 0) = q11
  generalize (a0.b12 == 0) = q12
  generalize (a0.b13 == 0) = q13
  generalize (a0.b14 == 0) = q14
  generalize (a0.b15 == 0) = q15
  cases q0
  case false => simp
  cases q1
  case false => simp
  cases q2
  case false => simp
  cases q3
  case false => simp
  cases q4
  case false => simp
  cases q5
  case false => simp
  cases q6
  case false => simp
  cases q7
  case false => simp
  cases q8
  case false => simp
  cases q9
  case false => simp
  cases q10
  case false => simp
  cases q11
  case false => simp
  cases q12
  case false => simp
  cases q13
  case false => simp
  cases q14
  case false => simp
  cases q15
  case false => simp
  simp)

theorem con95 : Con95 := fun a0 => con_flat tryBase (es := [e44]) (by intro e he; rcases List.mem_singleton.1 he with rfl; exact ok44 con44) Try.func95 (by kernel_rfl) (by kernel_rfl) (by kernel_rfl) (by kernel_rfl) (by kernel_rfl)
  (t := (.ite a0.v6
 (.ret (.s (.bool (.sym (lbEqI (liOfByte a0.b0) (liLit 255))))) [])
 (.ite (fValid a0)
  (.ret (.s (.bool (.sym (lbLe (liLit 224) (liOfByte a0.b0))))) [])
  (.ret (.s (.bool (.lit false))) [])))) (by kernel_rfl) (by
  simp only [Tr.holds, D.norm, D.norm1, SC.norm, BV.lb, lbLit, eqByte255, fGroup]
  refine ⟨fun h => by rw [h]; rfl, fun h => ⟨fun h1 => by rw [h, h1]; rfl, fun h1 => by rw [h, h1]; rfl⟩⟩)

theorem con99 : Con99 := fun a0 => con_flat tryBase (es := [e65]) (by intro e he; rcases List.mem_singleton.1 he with rfl; exact ok65 con65) Try.func99 (by kernel_rfl) (by kernel_rfl) (by kernel_rfl) (by kernel_rfl) (by kernel_rfl)
  (t := (.ite (fValid a0)
 (.ite a0.v6
  (.ite (lbEqI (liOfByte a0.b0) (liLit 255))
   (.ret (.s (.bool (.lit true))) [])
   (.ite (lbNot a0.v6)
    (.ret (.s (.bool (.sym (lbLe (liLit 224) (liOfByte a0.b0))))) [])
    (.ret (.s (.bool (.lit false))) [])))
  (.ite (lbNot a0.v6)
   (.ret (.s (.bool (.sym (lbLe (liLit 224) (liOfByte a0.b0))))) [])
   (.ret (.s (.bool (.lit false))) [])))
 (.ret (.s (.bool (.lit false))) []))) (by kernel_rfl) (by
  have hv : a0.v6 = true → fValid a0 = true := fun h => by simp [fValid, h]
  simp only [Tr.holds, D.norm, D.norm1, SC.norm, BV.lb, lbLit, eqByte255, lbNot, fGroup]
  cases h : a0.v6 <;> cases h1 : fValid a0 <;> cases h2 : a0.b0 == 255 <;> simp
  all_goals (rw [hv h] at h1; cases h1))

theorem con66 : Con66 := fun a0 a1 => con_flat tryBase (es := []) (fun _ h => nomatch h) Try.func66 (by kernel_rfl) (by kernel_rfl) (by kernel_rfl) (by kernel_rfl) (by kernel_rfl)
  (t := (.ite (lbLe (liLit 0) a0)
 (.ret (.s (.bool (.sym (lbLe a0 a1)))) [])
 (.ret (.s (.bool (.lit false))) []))) (by kernel_rfl) (by
  by_cases h0 : (0 : Int) ≤ a0 <;> by_cases h1 : a0 ≤ a1 <;> simp [Tr.holds, D.norm, D.norm1, SC.norm, fUpto, lbLe, liLit, BV.lb, lbLit, h0, h1])

theorem con68 : Con68 := fun a0 => con_flat tryBase (es := []) (fun _ h => nomatch h) Try.func68 (by kernel_rfl) (by kernel_rfl) (by kernel_rfl) (by kernel_rfl) (by kernel_rfl)
  (t := (.ite (lbEqI a0 (liLit 0))
 (.ret (.s (.bool (.lit true))) [])
 (.ite (lbEqI a0 (liLit 43))
  (.ret (.s (.bool (.lit true))) [])
  (.ite (lbEqI a0 (liLit 44))
   (.ret (.s (.bool (.lit true))) [])
   (.ret (.s (.bool (.sym (lbEqI a0 (liLit 60))))) []))))) (by kernel_rfl) (by
  simp only [Tr.holds, D.norm, D.norm1, SC.norm, fSpecial, lbEqI, liLit, BV.lb, lbLit]
  cases a0 == 0 <;> cases a0 == 43 <;> cases a0 == 44 <;> cases a0 == 60 <;> simp)

theorem con96 : Con96 := fun a0 => con_flat tryBase (es := []) (fun _ h => nomatch h) Try.func96 (by kernel_rfl) (by kernel_rfl) (by kernel_rfl) (by kernel_rfl) (by kernel_rfl)
  (t := (.ite a0
 (.ret (.s (.int .i64 (.lit 58))) [])
 (.ret (.s (.int .i64 (.lit 1))) []))) (by kernel_rfl) (by
  cases a0 <;> simp [Tr.holds, D.norm, D.norm1, SC.norm, fProto, IV.li, liLit])

theorem con100 : Con100 := fun a0 => con_flat tryBase (es := []) (fun _ h => nomatch h) Try.func100 (by kernel_rfl) (by kernel_rfl) (by kernel_rfl) (by kernel_rfl) (by kernel_rfl)
  (t := (.ite a0
 (.ret (.s (.int .i64 (.lit 58))) [])
 (.ret (.s (.int .i64 (.lit 1))) []))) (by kernel_rfl) (by
  cases a0 <;> simp [Tr.holds, D.norm, D.norm1, SC.norm, fProto, IV.li, liLit])

end Go.Adit
