/- Part of the proofs of the laws: lemmas and contracts, no statement of its own. -/
import Derived.Test.YtledohjnchnmhaaBridge
import Derived.Test.YtledohjnchnmhaaBuild4
set_option linter.unusedVariables false
set_option linter.unusedSimpArgs false
namespace Go.Adit
open Go.RowKit
section
variable {P : Program} {w0 : Base} {N : Nat} {c : Cfg} {z : Zs} {Q : Exit → Act → World → Prop} {BK : Nat → Act → World → Prop} {rs : List ResultVar} {R : D → List SC → Prop} {Rd : Int → Prop}

theorem kwp_codes {e : Exit} (he : e ≠ .normal) : ∀ (l : List Code) (a : Act) (w : World), kwp P Q BK (l.map (.code 0) ++ [.mark 0]) e a w → Q e a w
  | [], a, w, h => by
    cases e <;> first | exact absurd rfl he | simpa only [List.map_nil, List.nil_append, kwp] using h
  | x :: l, a, w, h => by
    refine kwp_codes he l a w ?_
    cases e <;> first | exact absurd rfl he | simpa only [List.map_cons, List.cons_append, kwp] using h

theorem spine_wp {X : Code} : ∀ (l : List Code) (a : Act) (w : World), (∀ a w, BK 0 a w → X.wp P Q a w) → kwp P Q BK (l.map (.code 0) ++ [.mark 0]) .normal a w → (l.foldr .seq X).wp P Q a w
  | [], a, w, hX, h => hX a w (by simpa only [List.map_nil, List.nil_append, kwp] using h)
  | x :: l, a, w, hX, h => by
    simp only [List.map_cons, List.cons_append, kwp] at h
    refine wp_seq (wp_mono h fun e a w h => ?_)
    cases e with
    | normal => exact spine_wp l a w hX h
    | _ => have := kwp_codes (P := P) (Q := Q) (BK := BK) (by intro e; cases e) l a w h; exact this

theorem loopDummy {X : Code} (hX0 : nloops X = 0) {i : Nat} {x : Code} {k : List K} (h : loopAt 0 [] (.seq (.block 5 (.loop (.exit 5))) X) i = some (x, k)) : x = .exit 5 ∧ k = [.inBlock 5, .code 1 X] := by
  simp only [loopAt] at h
  cases hb : Nat.beq 0 i with
  | true =>
    simp only [hb, Option.some.injEq, Prod.mk.injEq] at h
    exact ⟨h.1.symm, h.2.symm⟩
  | false =>
    simp only [hb] at h
    rw [loopAt_none (by omega)] at h
    cases h

/-- pieces in a row, and what stands behind them -/
theorem codes_wp (E : Env P c z) (hN : c.n = N) {l : List Code} {X : Code} (hX0 : nloops X = 0) (hnl : (l.all fun x => Nat.beq (nloops x) 0) = true) (hok : l.all (regsOk c) = true) {A : List (Nat × D) → List (Nat × Blk) → Prop} {n0 : Nat} {s : St} {β : Nat → Option Nat} {a : Act} {w : World}
    (hQ : ∀ (A : Nat → List (Nat × D) → List (Nat × Blk) → Prop) s β a w, (finish c rs s).holds R Rd A → Rel w0 N s β a w → Q .ret a w ∧ Q .normal a w)
    (hD : ∀ n s s1 β a w w', Rd n → c.hold s = true → Grow c s s1 → Rel w0 N s1 β a w → Left w0 N c s1 β a w' → Q (.panic (errChain n)) a w')
    (hX : ∀ v m β a w, A v m → Rel w0 N (St.of v m) β a w → X.wp P Q a w)
    (ht : (sym c z rs n0 (l.map (.code 0) ++ [.mark 0]) s).holds R Rd (fun _ v m => A v m)) (hR : Rel w0 N s β a w) : (l.foldr .seq X).wp P Q a w := by
  refine spine_wp (BK := fun _ => X.wp P Q) l a w (fun a w h => h) ?_
  have hc : ∀ l : List Code, (l.all fun x => Nat.beq (nloops x) 0) = true → noReg (l.map (.code 0) ++ [.mark 0]) = true ∧ marksB (nloops (.seq (.block 5 (.loop (.exit 5))) X)) (l.map (.code 0) ++ [.mark 0]) ∧ Cons (.seq (.block 5 (.loop (.exit 5))) X) (l.map (.code 0) ++ [.mark 0]) := by
    intro l
    induction l with
    | nil => intro _; exact ⟨rfl, ⟨by simp [nloops]; omega, trivial⟩, trivial⟩
    | cons x l ih =>
      intro h
      simp only [List.all_cons, Bool.and_eq_true] at h
      obtain ⟨h1, h2, h3⟩ := ih h.2
      have hx := Nat.eq_of_beq_eq_true h.1
      refine ⟨h1, h2, fun j r e => ?_, h3⟩
      rw [loopAt_none (by omega)] at e; cases e
  obtain ⟨h1, h2, h3⟩ := hc l hnl
  exact (sym_sound (Qf := Q) (BK := fun _ => X.wp P Q) (body := .seq (.block 5 (.loop (.exit 5))) X) (A := fun _ v m => A v m) E (zeroFlat E) hN (hQ _) hD
    (fun i v m β a w x k hA hx hR => by
      obtain ⟨rfl, rfl⟩ := loopDummy hX0 hx
      refine wp_loop_iwp (wp_exit ?_)
      simp only [Exit.then, kwp, if_true]
      exact wp_mono (hX v m β a w hA hR) fun e a w h => by cases e <;> exact h)
    (fun i v m β a w hi hA hR => hX v m β a w hA hR) n0).1 _ s β a w h1 h2 h3 (fun x hx => by
      rcases List.mem_append.1 hx with hx | hx
      · obtain ⟨y, hy, rfl⟩ := List.mem_map.1 hx
        exact List.all_eq_true.1 hok y hy
      · rcases List.mem_singleton.1 hx with rfl; rfl) ht hR

/-- what a step on other blocks leaves -/
theorem Rel.grown6 {s : St} {β : Nat → Option Nat} {a : Act} {w w' : World} {row : Option Nat} (h : Rel w0 N s β a w) (hg : w.grownBy w' row)
    (hr : ∀ r, row = some r → w0.heap.size ≤ r ∧ ∃ o : Obj, w.heap[r]? = some o ∧ o.isCells = false) (hne : ∀ n b r, β n = some b → row = some r → b ≠ r) : Rel w0 N s β a w' := by
  have hcel : ∀ k o v, k < w.heap.size → w.cell? ⟨k, o, none⟩ = some v → w'.cell? ⟨k, o, none⟩ = some v := fun k o v _ hv => cell_kept hv hg (fun r e => (hr r e).2)
  have st : Step β β w w' := ⟨fun k o v hk _ hv => hcel k o v hk hv, hg.size, fun _ _ h => h, fun _ _ h => h, fun _ _ h => h, fun n b o _ hb ho => (by rw [hg.block b (heap_lt ho) (fun e => hne n b b hb e.symm rfl)]; exact ho)⟩
  refine ⟨h.sz, fun t d hd => ?_, fun n blk hn => ?_, h.dom, h.nhid, h.inj, fun n b hn => ⟨(h.new n b hn).1, Nat.lt_of_lt_of_le (h.new n b hn).2 hg.size⟩, ?_, h.dfr, h.lnt⟩
  · obtain ⟨v, h1, h2⟩ := h.tm t d hd
    exact ⟨v, h1, h2.mono st⟩
  · obtain ⟨b, cs, ty, h1, h2, h3, h4⟩ := h.mem n blk hn
    exact ⟨b, cs, ty, h1, (grownBy_keeps_cells hg (fun r e => (hr r e).2) h2 rfl).trans h2, h3.mono st, h4⟩
  · refine ⟨hg.os.trans h.bel.os, hg.tape.trans h.bel.tape, hg.output.trans h.bel.output, Nat.le_trans h.bel.size hg.size, fun k hk hx => ?_⟩
    rw [hg.block k (Nat.lt_of_lt_of_le hk h.bel.size) (fun e => by have := (hr k e.symm).1; omega)]
    exact h.bel.block k hk hx
end
end Go.Adit
