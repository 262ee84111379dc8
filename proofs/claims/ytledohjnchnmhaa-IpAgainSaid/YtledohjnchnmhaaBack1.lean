/- Part of the proofs of the laws: lemmas and contracts, no statement of its own. -/
import Derived.Test.YtledohjnchnmhaaBack
set_option linter.unusedVariables false
set_option linter.unusedSimpArgs false
namespace Go.Adit
open Go.RowKit Go.Proofs Go.Shelf
attribute [local go_sem] Oper.semAt_some
/-- blocks of cells that lie as they lay -/
def KpY (Y : Nat → Prop) (A B : World) : Prop := ∀ k, Y k → ∀ o : Obj, A.heap[k]? = some o → o.isCells = true → B.heap[k]? = some o
theorem KpY.refl (Y : Nat → Prop) (A : World) : KpY Y A A := fun _ _ _ h _ => h
theorem KpY.trans {Y : Nat → Prop} {A B C : World} (h : KpY Y A B) (h' : KpY Y B C) : KpY Y A C := fun k hk o ho hc => h' k hk o (h k hk o ho hc) hc
theorem KpY.cell {Y : Nat → Prop} {A B : World} (h : KpY Y A B) {k o : Nat} (hk : Y k) {v : Value} (hv : A.cell? ⟨k, o, none⟩ = some v) : B.cell? ⟨k, o, none⟩ = some v := by
  have := hv
  obtain ⟨ob, h1, h2⟩ := cells_of_cell hv
  exact (World.cell?_of_block (w := A) ((h k hk ob h1 h2).trans h1.symm)).trans hv

set_option maxRecDepth 100000 in
set_option maxHeartbeats 4000000 in
theorem back1_in (F : Fence) (n : Nat) (h109 : F.fn 109) (hro : F.round = none) (hn : 1 ≤ n) (g Bs b off cap : Nat) {Y : Nat → Prop} (l : List Ext) (hgood : ∀ e ∈ l, GoodE e) (hreach : l.length ≤ 1000) (hb : Y b) (J Jx : List GX → World → Prop)
    (hY : ∀ pre x W, J pre W → pre.length < l.length → YieldAt F (n - 1) Try.prog g #[.int .i64 x.1.1, extV x.1.2] W fun e W' =>
      (e = .returned (.bool true) ∧ J (pre ++ [x]) W' ∧ KpY Y W W') ∨ (e = .returned (.bool false) ∧ Jx (pre ++ [x]) W'))
    (W : World) (hBn : Y Bs) (hBs : W.cell? ⟨Bs, 0, none⟩ = some (.slice (some ⟨b, off, none⟩) l.length cap))
    (hc : ∀ j, j < l.length → W.cell? ⟨b, off + j * 2, none⟩ = some (.int .i64 (l.getD j ⟨0, []⟩).kind) ∧ W.cell? ⟨b, off + (j * 2 + 1), none⟩ = some (.string ⟨⟨(l.getD j ⟨0, []⟩).body⟩⟩)) (h0 : J [] W) :
    CallsIn F n Try.prog 109 #[.func (.yield g) #[] #[], .pointer (some ⟨Bs, 0, none⟩)] W fun e W' => (∃ v, e = .returned v) ∧
      ((∃ ys, ys = upto (backG l hgood) l.length ∧ J ys W') ∨ (∃ pre, (∃ k, k ≤ l.length ∧ pre = upto (backG l hgood) k) ∧ Jx pre W')) := by
  generalize hlen : l.length = len at *
  refine callsIn_of_wp Try.func109 rfl h109 ?_ hro
  simp only [Try.ntmps109, List.size_toArray, List.length_cons, List.length_nil, Nat.reduceAdd, Nat.reduceSub, Array.replicate_succ, Array.replicate_zero, List.push_toArray, List.append_toArray, List.nil_append, List.cons_append]
  gi_wp2
  gi_loopw [3] (fun i wr => ∃ k : Nat, k ≤ len ∧ i = .int .i64 ((len : Int) - 1 - k) ∧ J (upto (backG l hgood) k) wr ∧ KpY Y W wr)
    (fun i _ => (intOf i + 1).toNat)
  case atStart => exact ⟨0, Nat.zero_le _, by simp, h0, KpY.refl _ _⟩
  case round =>
    obtain ⟨k, hk, rfl, hJs, hnx⟩ := hrel
    have hbx : wr.cell? ⟨Bs, 0, none⟩ = some (.slice (some ⟨b, off, none⟩) len cap) := hnx.cell hBn hBs
    by_cases hlt : k < len
    · obtain ⟨q1, q2⟩ := hc (len - 1 - k) (by omega)
      have hc1 := hnx.cell hb q1
      have hc2 : wr.cell? ⟨b, off + (len - 1 - k) * 2 + 1, none⟩ = _ := hnx.cell (o := off + ((len - 1 - k) * 2 + 1)) hb q2
      obtain ⟨fn, tmps, assign, body, hy, hR⟩ := hY _ (backG l hgood k) wr hJs (by rw [upto_length]; exact hlt)
      change (Instr.yield g #[.int .i64 (backAt l k).1, extV (backAt l k).2]).run Try.prog wr = _ at hy
      unfold backAt extV at hy
      rw [hlen] at hy
      have e1 : ((len - 1 - k : Nat) : Int) = (len : Int) - 1 - k := by omega
      have e2 : ((len : Int) - 1 - k).toNat = len - 1 - k := by omega
      have hge : (0 : Int) ≤ (len : Int) - 1 - k := by omega
      rw [e1] at hy
      have hge' : (k : Int) ≤ (len : Int) - 1 := by omega
      have hlt1 : (len : Int) - 1 - k < len := by omega
      clear hc q1 q2 hBs
      generalize l.getD (len - 1 - k) ⟨0, []⟩ = ex at hc1 hc2 hy
      obtain ⟨kd, bd⟩ := ex
      simp only at hc1 hc2 hy
      gi_wp2
      refine hR.mono ?_
      rintro e W3 (⟨rfl, hJ3, hk3⟩ | ⟨rfl, hJx3⟩)
      · gi_wp2
        go_roundw
        case rel => exact ⟨k + 1, by omega, by simp; omega, by rw [upto_succ]; exact hJ3, hnx.trans hk3⟩
        case measure => simp [intOf]; omega
      · gi_wp2
        refine bodyPost_ret (results_none rfl _ _ _) rfl ?_
        exact ⟨⟨_, rfl⟩, .inr ⟨_, ⟨k + 1, by omega, (upto_succ _ _).symm⟩, hJx3⟩⟩
    · obtain rfl : k = len := by omega
      have hneg : ¬ (0 : Int) ≤ (k : Int) - 1 - k := by omega
      have hneg' : ¬ (k : Int) ≤ (k : Int) - 1 := by omega
      clear hc hBs
      gi_wp2
      go_end0
      exact ⟨⟨_, rfl⟩, .inl hJs⟩
end Go.Adit
namespace Go.Adit
open Go.RowKit Go.Proofs Go.Shelf
attribute [local go_sem] Oper.semAt_some
set_option maxRecDepth 100000 in
set_option maxHeartbeats 2000000 in
theorem back1_nil_in (F : Fence) (n : Nat) (h109 : F.fn 109) (hro : F.round = none) (g Bs : Nat) (a : Option Go.Addr) (cap : Nat) (J : List GX → World → Prop) (W : World) (hBs : W.cell? ⟨Bs, 0, none⟩ = some (.slice a 0 cap)) (h0 : J [] W) :
    CallsIn F n Try.prog 109 #[.func (.yield g) #[] #[], .pointer (some ⟨Bs, 0, none⟩)] W fun e W' => (∃ v, e = .returned v) ∧ J [] W' := by
  refine callsIn_of_wp Try.func109 rfl h109 ?_ hro
  simp only [Try.ntmps109, List.size_toArray, List.length_cons, List.length_nil, Nat.reduceAdd, Nat.reduceSub, Array.replicate_succ, Array.replicate_zero, List.push_toArray, List.append_toArray, List.nil_append, List.cons_append]
  gi_wp2
  gi_loopw [3] (fun i wr => i = .int .i64 (-1) ∧ J [] wr) (fun _ _ => 0)
  case atStart => exact ⟨rfl, h0⟩
  case round =>
    obtain ⟨rfl, hJs⟩ := hrel
    gi_wp2
    go_end0
    exact ⟨⟨_, rfl⟩, hJs⟩
/-- the iterator's contract, over a slice that reads as these Exts -/
theorem back_stops (F : Fence) (n : Nat) (h109 : F.fn 109) (hro : F.round = none) (hn : 1 ≤ n) (Bs : Nat) {Y : Nat → Prop} (sv : Value) (l : List Ext) (hgood : ∀ e ∈ l, GoodE e) (hreach : l.length ≤ 1000) (w : World) (hBs : Y Bs) (hBl : Bs < w.heap.size)
    (hc : w.cell? ⟨Bs, 0, none⟩ = some sv) (hI : ExtsAt w Y l sv) :
    SeqStopsK F n Try.prog 109 #[.pointer (some ⟨Bs, 0, none⟩)] (fun x : GX => #[Value.int .i64 x.1.1, extV x.1.2]) (KpY Y) (fun ys => ys = upto (backG l hgood) l.length)
      (fun pre => ∃ k, k ≤ l.length ∧ pre = upto (backG l hgood) k) l.length w := fun g J Jx W hW _ _ hY h0 => by
  have hc' := (hW.cell (p := ⟨Bs, 0, none⟩) hBl).trans hc
  obtain ⟨a, cap, rfl, _, h⟩ := hI
  rcases h with rfl | ⟨b, off, rfl, hbl, hb, hcs⟩
  · refine (back1_nil_in F n h109 hro g Bs a cap J W (by simpa using hc') h0).mono fun e W' ⟨he, hj⟩ => ⟨he, .inl ⟨[], rfl, hj⟩⟩
  · refine back1_in F n h109 hro hn g Bs b off cap l hgood hreach hb J Jx hY W hBs hc' (fun j hj => ?_) h0
    have hj' : l[j]? = some (l.getD j ⟨0, []⟩) := by simp [List.getD_eq_getElem?_getD, hj]
    obtain ⟨q1, _, q2, _⟩ := hcs j _ hj'
    exact ⟨(hW.cell (p := ⟨b, off + j * 2, none⟩) hbl).trans q1, (hW.cell (p := ⟨b, off + (j * 2 + 1), none⟩) hbl).trans q2⟩
end Go.Adit
