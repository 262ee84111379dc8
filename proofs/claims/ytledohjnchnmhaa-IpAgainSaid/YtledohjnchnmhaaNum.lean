/- Part of the proofs of the laws: lemmas and contracts, no statement of its own. -/
import Derived.Test.YtledohjnchnmhaaF3
import Derived.Test.YtledohjnchnmhaaGet
import Derived.Test.YtledohjnchnmhaaRdr
set_option linter.unusedVariables false
set_option linter.unusedSimpArgs false
namespace Go.Adit
def fNum (b : List UInt8) (x : Int) (k : Nat) : Int := liConv .i64 (fGetN (fTake b x (liLit k)) (liLit 0) k)
def fAddrAt (b : List UInt8) (x : Int) (k : Nat) : Addr := (fFrom (fTake b x (liLit k))).1
end Go.Adit

namespace Go.Adit
def ivAdv (x : IV) (m : Nat) : IV :=
  match x with
  | .lit a => .lit (a + m)
  | .sym s => .sym (fAdv s (liLit (.ofNat m)))
def isAddrSize : Nat → Bool
  | 4 | 16 => true
  | _ => false
def m115 : List SC → List D → Option (D × List SC × List Bool)
  | [.str b, .int .i64 x], [.s (.int .i64 (.lit (.ofNat m)))] => match isGetSize m with
    | true => some (.s (.int .i64 (.sym (fNum b x.li m))), [.str b, .int .i64 (ivAdv x m)], [fFits b x.li])
    | false => none
  | _, _ => none
def d115 : List SC → List D → Option (BV × Int)
  | [.str b, .int .i64 x], [.s (.int .i64 (.lit (.ofNat m)))] => match isGetSize m with
    | true => some (.sym (fShortBy b x.li (liLit (.ofNat m))), 72)
    | false => none
  | _, _ => none
def e115 : Entry := ⟨115, some 2, noCall, m115, d115⟩
def m116 : List SC → List D → Option (D × List SC × List Bool)
  | [.str b, .int .i64 x], [.s (.int .i64 (.lit (.ofNat m)))] => match isAddrSize m with
    | true => some (.agg (encAddr (fAddrAt b x.li m)), [.str b, .int .i64 (ivAdv x m)], [fFits b x.li])
    | false => none
  | _, _ => none
def d116 : List SC → List D → Option (BV × Int)
  | [.str b, .int .i64 x], [.s (.int .i64 (.lit (.ofNat m)))] => match isAddrSize m with
    | true => some (.sym (fShortBy b x.li (liLit (.ofNat m))), 72)
    | false => none
  | _, _ => none
def e116 : Entry := ⟨116, some 2, noCall, m116, d116⟩
end Go.Adit

namespace Go.Adit
open Go.RowKit Go.Proofs
set_option maxRecDepth 100000
theorem ivAdv_li (x : IV) (m : Nat) : (ivAdv x m).li = fAdv x.li (liLit (.ofNat m)) := by cases x <;> rfl
theorem fits_of_short {b : List UInt8} {x n : Int} (h : fShortBy b x n = true) : fFits b x = true := by
  simp only [fShortBy, and_t] at h
  exact h.1
theorem con115_1 (b : List UInt8) (x : Int) (hf : fFits b x = true) (hs : fShortBy b x (liLit 1) = false) : ConM Try.prog 115 [.str b, .int .i64 (.sym x)] [.s (.int .i64 (.lit 1))] (.s (.int .i64 (.sym (fNum b x 1)))) [.str b, .int .i64 (.sym (fAdv x (liLit 1)))] :=
  conM_flat tryBase (es := [e117, e87]) (by intro e he; rcases List.mem_cons.1 he with rfl | he; exact ok117; rcases List.mem_singleton.1 he with rfl; exact ok87) Try.func115 (by kernel_rfl) (by kernel_rfl) (by kernel_rfl) (by kernel_rfl) (by kernel_rfl) (by kernel_rfl) (by kernel_rfl)
  (t := (.ite (fShortBy b x (liLit 1))
 (.req [(fFits b x)]
  (.die (72)))
 (.req [(fFits b x)]
  (.ret (.s (.int .i64 (.sym (liConv .i64 (fGetN (fTake b x (liLit 1)) (liLit 0) 1))))) [.str b, .int .i64 (.sym (fAdv x (liLit 1)))])))) (by kernel_rfl) (by
  refine ⟨fun h => (by rw [hs] at h; cases h), fun _ => ⟨fun q hq => (by rcases List.mem_singleton.1 hq with rfl; exact hf), ?_, rfl, by simp⟩⟩
  rfl)

theorem die115_1 (b : List UInt8) (x : Int) (hs : fShortBy b x (liLit 1) = true) : ConMDie Try.prog 115 [.str b, .int .i64 (.sym x)] [.s (.int .i64 (.lit 1))] 72 :=
  conMDie_flat tryBase (es := [e117, e87]) (by intro e he; rcases List.mem_cons.1 he with rfl | he; exact ok117; rcases List.mem_singleton.1 he with rfl; exact ok87) Try.func115 (by kernel_rfl) (by kernel_rfl) (by kernel_rfl) (by kernel_rfl) (by kernel_rfl) (by kernel_rfl) (by kernel_rfl)
  (t := (.ite (fShortBy b x (liLit 1))
 (.req [(fFits b x)]
  (.die (72)))
 (.req [(fFits b x)]
  (.ret (.s (.int .i64 (.sym (liConv .i64 (fGetN (fTake b x (liLit 1)) (liLit 0) 1))))) [.str b, .int .i64 (.sym (fAdv x (liLit 1)))])))) (by kernel_rfl) (by
  refine ⟨fun _ => ⟨fun q hq => (by rcases List.mem_singleton.1 hq with rfl; exact fits_of_short hs), rfl⟩, fun h => (by rw [hs] at h; cases h)⟩)

theorem con115_2 (b : List UInt8) (x : Int) (hf : fFits b x = true) (hs : fShortBy b x (liLit 2) = false) : ConM Try.prog 115 [.str b, .int .i64 (.sym x)] [.s (.int .i64 (.lit 2))] (.s (.int .i64 (.sym (fNum b x 2)))) [.str b, .int .i64 (.sym (fAdv x (liLit 2)))] :=
  conM_flat tryBase (es := [e117, e87]) (by intro e he; rcases List.mem_cons.1 he with rfl | he; exact ok117; rcases List.mem_singleton.1 he with rfl; exact ok87) Try.func115 (by kernel_rfl) (by kernel_rfl) (by kernel_rfl) (by kernel_rfl) (by kernel_rfl) (by kernel_rfl) (by kernel_rfl)
  (t := (.ite (fShortBy b x (liLit 2))
 (.req [(fFits b x)]
  (.die (72)))
 (.req [(fFits b x)]
  (.ret (.s (.int .i64 (.sym (liConv .i64 (fGetN (fTake b x (liLit 2)) (liLit 0) 2))))) [.str b, .int .i64 (.sym (fAdv x (liLit 2)))])))) (by kernel_rfl) (by
  refine ⟨fun h => (by rw [hs] at h; cases h), fun _ => ⟨fun q hq => (by rcases List.mem_singleton.1 hq with rfl; exact hf), ?_, rfl, by simp⟩⟩
  rfl)

theorem die115_2 (b : List UInt8) (x : Int) (hs : fShortBy b x (liLit 2) = true) : ConMDie Try.prog 115 [.str b, .int .i64 (.sym x)] [.s (.int .i64 (.lit 2))] 72 :=
  conMDie_flat tryBase (es := [e117, e87]) (by intro e he; rcases List.mem_cons.1 he with rfl | he; exact ok117; rcases List.mem_singleton.1 he with rfl; exact ok87) Try.func115 (by kernel_rfl) (by kernel_rfl) (by kernel_rfl) (by kernel_rfl) (by kernel_rfl) (by kernel_rfl) (by kernel_rfl)
  (t := (.ite (fShortBy b x (liLit 2))
 (.req [(fFits b x)]
  (.die (72)))
 (.req [(fFits b x)]
  (.ret (.s (.int .i64 (.sym (liConv .i64 (fGetN (fTake b x (liLit 2)) (liLit 0) 2))))) [.str b, .int .i64 (.sym (fAdv x (liLit 2)))])))) (by kernel_rfl) (by
  refine ⟨fun _ => ⟨fun q hq => (by rcases List.mem_singleton.1 hq with rfl; exact fits_of_short hs), rfl⟩, fun h => (by rw [hs] at h; cases h)⟩)

theorem con115_4 (b : List UInt8) (x : Int) (hf : fFits b x = true) (hs : fShortBy b x (liLit 4) = false) : ConM Try.prog 115 [.str b, .int .i64 (.sym x)] [.s (.int .i64 (.lit 4))] (.s (.int .i64 (.sym (fNum b x 4)))) [.str b, .int .i64 (.sym (fAdv x (liLit 4)))] :=
  conM_flat tryBase (es := [e117, e87]) (by intro e he; rcases List.mem_cons.1 he with rfl | he; exact ok117; rcases List.mem_singleton.1 he with rfl; exact ok87) Try.func115 (by kernel_rfl) (by kernel_rfl) (by kernel_rfl) (by kernel_rfl) (by kernel_rfl) (by kernel_rfl) (by kernel_rfl)
  (t := (.ite (fShortBy b x (liLit 4))
 (.req [(fFits b x)]
  (.die (72)))
 (.req [(fFits b x)]
  (.ret (.s (.int .i64 (.sym (liConv .i64 (fGetN (fTake b x (liLit 4)) (liLit 0) 4))))) [.str b, .int .i64 (.sym (fAdv x (liLit 4)))])))) (by kernel_rfl) (by
  refine ⟨fun h => (by rw [hs] at h; cases h), fun _ => ⟨fun q hq => (by rcases List.mem_singleton.1 hq with rfl; exact hf), ?_, rfl, by simp⟩⟩
  rfl)

theorem die115_4 (b : List UInt8) (x : Int) (hs : fShortBy b x (liLit 4) = true) : ConMDie Try.prog 115 [.str b, .int .i64 (.sym x)] [.s (.int .i64 (.lit 4))] 72 :=
  conMDie_flat tryBase (es := [e117, e87]) (by intro e he; rcases List.mem_cons.1 he with rfl | he; exact ok117; rcases List.mem_singleton.1 he with rfl; exact ok87) Try.func115 (by kernel_rfl) (by kernel_rfl) (by kernel_rfl) (by kernel_rfl) (by kernel_rfl) (by kernel_rfl) (by kernel_rfl)
  (t := (.ite (fShortBy b x (liLit 4))
 (.req [(fFits b x)]
  (.die (72)))
 (.req [(fFits b x)]
  (.ret (.s (.int .i64 (.sym (liConv .i64 (fGetN (fTake b x (liLit 4)) (liLit 0) 4))))) [.str b, .int .i64 (.sym (fAdv x (liLit 4)))])))) (by kernel_rfl) (by
  refine ⟨fun _ => ⟨fun q hq => (by rcases List.mem_singleton.1 hq with rfl; exact fits_of_short hs), rfl⟩, fun h => (by rw [hs] at h; cases h)⟩)

theorem ok115 : EntryOK Try.prog e115 := by
  refine ⟨fun _ _ _ h => (nomatch h), fun cells args r cells' req _ hd hc hq => ?_, fun _ _ _ h1 => (nomatch h1), fun cells args b n _ hd hb => ?_⟩
  · simp only [e115] at hc hd ⊢
    unfold m115 at hc
    split at hc
    · rename_i b x m _
      split at hc
      · rename_i hm
        simp only [Option.some.injEq, Prod.mk.injEq] at hc
        obtain ⟨rfl, rfl, rfl⟩ := hc
        have hs : fShortBy b x.li (liLit (.ofNat m)) = false := hd (.sym (fShortBy b x.li (liLit (.ofNat m)))) 72 (by simp only [d115, hm])
        have key : ∀ m : Nat, isGetSize m = true → fShortBy b x.li (liLit (.ofNat m)) = false → ConM Try.prog 115 [.str b, .int .i64 (.sym x.li)] [.s (.int .i64 (.lit (.ofNat m)))] (.s (.int .i64 (.sym (fNum b x.li m)))) [.str b, .int .i64 (.sym (fAdv x.li (liLit (.ofNat m))))] := by
          intro m hm hs
          unfold isGetSize at hm
          split at hm
          · exact con115_1 b x.li (hq _ (.head _)) hs
          · exact con115_2 b x.li (hq _ (.head _)) hs
          · exact con115_4 b x.li (hq _ (.head _)) hs
          · cases hm
        exact ConM.args (key m hm hs) (fun _ _ vs h => (match vs, h with
          | [_, _], ⟨h0, h1, _⟩ => ⟨h0, h1, trivial⟩)) (fun _ _ vs h => h) (by cases x <;> rfl)
      · cases hc
    · cases hc
  · simp only [e115] at hd ⊢
    unfold d115 at hd
    split at hd
    · rename_i b x m _
      split at hd
      · rename_i hm
        simp only [Option.some.injEq, Prod.mk.injEq] at hd
        obtain ⟨rfl, rfl⟩ := hd
        have key : ∀ m : Nat, isGetSize m = true → fShortBy b x.li (liLit (.ofNat m)) = true → ConMDie Try.prog 115 [.str b, .int .i64 (.sym x.li)] [.s (.int .i64 (.lit (.ofNat m)))] 72 := by
          intro m hm hs
          unfold isGetSize at hm
          split at hm
          · exact die115_1 b x.li hs
          · exact die115_2 b x.li hs
          · exact die115_4 b x.li hs
          · cases hm
        exact ConMDie.args (key m hm hb) (fun _ _ vs h => (match vs, h with
          | [_, _], ⟨h0, h1, _⟩ => ⟨h0, h1, trivial⟩)) (fun _ _ vs h => h)
      · cases hd
    · cases hd

theorem con116_4 (b : List UInt8) (x : Int) (hf : fFits b x = true) (hs : fShortBy b x (liLit 4) = false) : ConM Try.prog 116 [.str b, .int .i64 (.sym x)] [.s (.int .i64 (.lit 4))] (.agg (encAddr (fAddrAt b x 4))) [.str b, .int .i64 (.sym (fAdv x (liLit 4)))] :=
  conM_flat tryBase (es := [e117, e108]) (by intro e he; rcases List.mem_cons.1 he with rfl | he; exact ok117; rcases List.mem_singleton.1 he with rfl; exact ok108 con108) Try.func116 (by kernel_rfl) (by kernel_rfl) (by kernel_rfl) (by kernel_rfl) (by kernel_rfl) (by kernel_rfl) (by kernel_rfl)
  (t := (.ite (fShortBy b x (liLit 4))
 (.req [(fFits b x)]
  (.die (72)))
 (.req [(fFits b x)]
  (.ret (.agg [.bool (.sym (fFrom (fTake b x (liLit 4))).1.v6), .byte (fFrom (fTake b x (liLit 4))).1.b0, .byte (fFrom (fTake b x (liLit 4))).1.b1, .byte (fFrom (fTake b x (liLit 4))).1.b2, .byte (fFrom (fTake b x (liLit 4))).1.b3, .byte (fFrom (fTake b x (liLit 4))).1.b4, .byte (fFrom (fTake b x (liLit 4))).1.b5, .byte (fFrom (fTake b x (liLit 4))).1.b6, .byte (fFrom (fTake b x (liLit 4))).1.b7, .byte (fFrom (fTake b x (liLit 4))).1.b8, .byte (fFrom (fTake b x (liLit 4))).1.b9, .byte (fFrom (fTake b x (liLit 4))).1.b10, .byte (fFrom (fTake b x (liLit 4))).1.b11, .byte (fFrom (fTake b x (liLit 4))).1.b12, .byte (fFrom (fTake b x (liLit 4))).1.b13, .byte (fFrom (fTake b x (liLit 4))).1.b14, .byte (fFrom (fTake b x (liLit 4))).1.b15]) [.str b, .int .i64 (.sym (fAdv x (liLit 4)))])))) (by kernel_rfl) (by
  refine ⟨fun h => (by rw [hs] at h; cases h), fun _ => ⟨fun q hq => (by rcases List.mem_singleton.1 hq with rfl; exact hf), ?_, rfl, by simp⟩⟩
  rfl)

theorem die116_4 (b : List UInt8) (x : Int) (hs : fShortBy b x (liLit 4) = true) : ConMDie Try.prog 116 [.str b, .int .i64 (.sym x)] [.s (.int .i64 (.lit 4))] 72 :=
  conMDie_flat tryBase (es := [e117, e108]) (by intro e he; rcases List.mem_cons.1 he with rfl | he; exact ok117; rcases List.mem_singleton.1 he with rfl; exact ok108 con108) Try.func116 (by kernel_rfl) (by kernel_rfl) (by kernel_rfl) (by kernel_rfl) (by kernel_rfl) (by kernel_rfl) (by kernel_rfl)
  (t := (.ite (fShortBy b x (liLit 4))
 (.req [(fFits b x)]
  (.die (72)))
 (.req [(fFits b x)]
  (.ret (.agg [.bool (.sym (fFrom (fTake b x (liLit 4))).1.v6), .byte (fFrom (fTake b x (liLit 4))).1.b0, .byte (fFrom (fTake b x (liLit 4))).1.b1, .byte (fFrom (fTake b x (liLit 4))).1.b2, .byte (fFrom (fTake b x (liLit 4))).1.b3, .byte (fFrom (fTake b x (liLit 4))).1.b4, .byte (fFrom (fTake b x (liLit 4))).1.b5, .byte (fFrom (fTake b x (liLit 4))).1.b6, .byte (fFrom (fTake b x (liLit 4))).1.b7, .byte (fFrom (fTake b x (liLit 4))).1.b8, .byte (fFrom (fTake b x (liLit 4))).1.b9, .byte (fFrom (fTake b x (liLit 4))).1.b10, .byte (fFrom (fTake b x (liLit 4))).1.b11, .byte (fFrom (fTake b x (liLit 4))).1.b12, .byte (fFrom (fTake b x (liLit 4))).1.b13, .byte (fFrom (fTake b x (liLit 4))).1.b14, .byte (fFrom (fTake b x (liLit 4))).1.b15]) [.str b, .int .i64 (.sym (fAdv x (liLit 4)))])))) (by kernel_rfl) (by
  refine ⟨fun _ => ⟨fun q hq => (by rcases List.mem_singleton.1 hq with rfl; exact fits_of_short hs), rfl⟩, fun h => (by rw [hs] at h; cases h)⟩)

theorem con116_16 (b : List UInt8) (x : Int) (hf : fFits b x = true) (hs : fShortBy b x (liLit 16) = false) : ConM Try.prog 116 [.str b, .int .i64 (.sym x)] [.s (.int .i64 (.lit 16))] (.agg (encAddr (fAddrAt b x 16))) [.str b, .int .i64 (.sym (fAdv x (liLit 16)))] :=
  conM_flat tryBase (es := [e117, e108]) (by intro e he; rcases List.mem_cons.1 he with rfl | he; exact ok117; rcases List.mem_singleton.1 he with rfl; exact ok108 con108) Try.func116 (by kernel_rfl) (by kernel_rfl) (by kernel_rfl) (by kernel_rfl) (by kernel_rfl) (by kernel_rfl) (by kernel_rfl)
  (t := (.ite (fShortBy b x (liLit 16))
 (.req [(fFits b x)]
  (.die (72)))
 (.req [(fFits b x)]
  (.ret (.agg [.bool (.sym (fFrom (fTake b x (liLit 16))).1.v6), .byte (fFrom (fTake b x (liLit 16))).1.b0, .byte (fFrom (fTake b x (liLit 16))).1.b1, .byte (fFrom (fTake b x (liLit 16))).1.b2, .byte (fFrom (fTake b x (liLit 16))).1.b3, .byte (fFrom (fTake b x (liLit 16))).1.b4, .byte (fFrom (fTake b x (liLit 16))).1.b5, .byte (fFrom (fTake b x (liLit 16))).1.b6, .byte (fFrom (fTake b x (liLit 16))).1.b7, .byte (fFrom (fTake b x (liLit 16))).1.b8, .byte (fFrom (fTake b x (liLit 16))).1.b9, .byte (fFrom (fTake b x (liLit 16))).1.b10, .byte (fFrom (fTake b x (liLit 16))).1.b11, .byte (fFrom (fTake b x (liLit 16))).1.b12, .byte (fFrom (fTake b x (liLit 16))).1.b13, .byte (fFrom (fTake b x (liLit 16))).1.b14, .byte (fFrom (fTake b x (liLit 16))).1.b15]) [.str b, .int .i64 (.sym (fAdv x (liLit 16)))])))) (by kernel_rfl) (by
  refine ⟨fun h => (by rw [hs] at h; cases h), fun _ => ⟨fun q hq => (by rcases List.mem_singleton.1 hq with rfl; exact hf), ?_, rfl, by simp⟩⟩
  rfl)

theorem die116_16 (b : List UInt8) (x : Int) (hs : fShortBy b x (liLit 16) = true) : ConMDie Try.prog 116 [.str b, .int .i64 (.sym x)] [.s (.int .i64 (.lit 16))] 72 :=
  conMDie_flat tryBase (es := [e117, e108]) (by intro e he; rcases List.mem_cons.1 he with rfl | he; exact ok117; rcases List.mem_singleton.1 he with rfl; exact ok108 con108) Try.func116 (by kernel_rfl) (by kernel_rfl) (by kernel_rfl) (by kernel_rfl) (by kernel_rfl) (by kernel_rfl) (by kernel_rfl)
  (t := (.ite (fShortBy b x (liLit 16))
 (.req [(fFits b x)]
  (.die (72)))
 (.req [(fFits b x)]
  (.ret (.agg [.bool (.sym (fFrom (fTake b x (liLit 16))).1.v6), .byte (fFrom (fTake b x (liLit 16))).1.b0, .byte (fFrom (fTake b x (liLit 16))).1.b1, .byte (fFrom (fTake b x (liLit 16))).1.b2, .byte (fFrom (fTake b x (liLit 16))).1.b3, .byte (fFrom (fTake b x (liLit 16))).1.b4, .byte (fFrom (fTake b x (liLit 16))).1.b5, .byte (fFrom (fTake b x (liLit 16))).1.b6, .byte (fFrom (fTake b x (liLit 16))).1.b7, .byte (fFrom (fTake b x (liLit 16))).1.b8, .byte (fFrom (fTake b x (liLit 16))).1.b9, .byte (fFrom (fTake b x (liLit 16))).1.b10, .byte (fFrom (fTake b x (liLit 16))).1.b11, .byte (fFrom (fTake b x (liLit 16))).1.b12, .byte (fFrom (fTake b x (liLit 16))).1.b13, .byte (fFrom (fTake b x (liLit 16))).1.b14, .byte (fFrom (fTake b x (liLit 16))).1.b15]) [.str b, .int .i64 (.sym (fAdv x (liLit 16)))])))) (by kernel_rfl) (by
  refine ⟨fun _ => ⟨fun q hq => (by rcases List.mem_singleton.1 hq with rfl; exact fits_of_short hs), rfl⟩, fun h => (by rw [hs] at h; cases h)⟩)

theorem ok116 : EntryOK Try.prog e116 := by
  refine ⟨fun _ _ _ h => (nomatch h), fun cells args r cells' req _ hd hc hq => ?_, fun _ _ _ h1 => (nomatch h1), fun cells args b n _ hd hb => ?_⟩
  · simp only [e116] at hc hd ⊢
    unfold m116 at hc
    split at hc
    · rename_i b x m _
      split at hc
      · rename_i hm
        simp only [Option.some.injEq, Prod.mk.injEq] at hc
        obtain ⟨rfl, rfl, rfl⟩ := hc
        have hs : fShortBy b x.li (liLit (.ofNat m)) = false := hd (.sym (fShortBy b x.li (liLit (.ofNat m)))) 72 (by simp only [d116, hm])
        have key : ∀ m : Nat, isAddrSize m = true → fShortBy b x.li (liLit (.ofNat m)) = false → ConM Try.prog 116 [.str b, .int .i64 (.sym x.li)] [.s (.int .i64 (.lit (.ofNat m)))] (.agg (encAddr (fAddrAt b x.li m))) [.str b, .int .i64 (.sym (fAdv x.li (liLit (.ofNat m))))] := by
          intro m hm hs
          unfold isAddrSize at hm
          split at hm
          · exact con116_4 b x.li (hq _ (.head _)) hs
          · exact con116_16 b x.li (hq _ (.head _)) hs
          · cases hm
        exact ConM.args (key m hm hs) (fun _ _ vs h => (match vs, h with
          | [_, _], ⟨h0, h1, _⟩ => ⟨h0, h1, trivial⟩)) (fun _ _ vs h => h) (by cases x <;> rfl)
      · cases hc
    · cases hc
  · simp only [e116] at hd ⊢
    unfold d116 at hd
    split at hd
    · rename_i b x m _
      split at hd
      · rename_i hm
        simp only [Option.some.injEq, Prod.mk.injEq] at hd
        obtain ⟨rfl, rfl⟩ := hd
        have key : ∀ m : Nat, isAddrSize m = true → fShortBy b x.li (liLit (.ofNat m)) = true → ConMDie Try.prog 116 [.str b, .int .i64 (.sym x.li)] [.s (.int .i64 (.lit (.ofNat m)))] 72 := by
          intro m hm hs
          unfold isAddrSize at hm
          split at hm
          · exact die116_4 b x.li hs
          · exact die116_16 b x.li hs
          · cases hm
        exact ConMDie.args (key m hm hb) (fun _ _ vs h => (match vs, h with
          | [_, _], ⟨h0, h1, _⟩ => ⟨h0, h1, trivial⟩)) (fun _ _ vs h => h)
      · cases hd
    · cases hd

end Go.Adit
