/- Part of the proofs of the laws: lemmas and contracts, no statement of its own. -/
import Derived.Below
import Derived.ChangeOld
import Derived.ChangeSame
import Derived.DataReads
import Derived.Deep.Fields
import Derived.Deep.Slices
import Derived.OpenShut
import Derived.ProofKit
import Derived.ShutString
import Derived.Test.YtledohjnchnmhaaSp
import Derived.WalkKit
set_option linter.unusedVariables false
set_option linter.unusedSimpArgs false
namespace Go.Adit
open Go.RowKit Go.Proofs Go.ChangeShapes Go.WideShapes
set_option maxRecDepth 100000
section
variable {H : Type} {enc : TypeId × Value → H} {W : World} {base : Nat} {spare : Nat → Bool} {held : Bool} {β : Nat → Option Nat} {own : Nat → Prop} {w : World}

theorem cell_of_take {l : List Value} {i : Nat} {v : Value} (h : (l.drop i).take 1 = [v]) : l[i]? = some v := by
  cases hd : l.drop i with
  | nil => rw [hd] at h; cases h
  | cons x r =>
    rw [hd] at h
    simp only [List.take_succ_cons, List.take_zero, List.cons.injEq, and_true] at h
    subst h
    have := congrArg (fun m : List Value => m[0]?) hd
    simpa using this

theorem inR_of_wf {k : IntKind} {n : Int} (h : (Lit.int k n).wf = true) : inR k n := by
  simpa [Lit.wf, inR] using h

theorem toNat_inR (y : UInt8) : inR .u8 (y.toNat : Int) := by
  have := y.toNat_lt
  unfold inR
  have h1 : IntKind.min .u8 = 0 := rfl
  have h2 : IntKind.max .u8 = 255 := rfl
  rw [h1, h2]
  omega

theorem byte_of_wf {n : Int} (h : (Lit.int .u8 n).wf = true) : ∃ y : UInt8, n = (y.toNat : Int) := by
  have := inR_of_wf h
  unfold inR at this
  have h1 : IntKind.min .u8 = 0 := rfl
  have h2 : IntKind.max .u8 = 255 := rfl
  rw [h1, h2] at this
  refine ⟨UInt8.ofNat n.toNat, ?_⟩
  rw [UInt8.toNat_ofNat']
  omega

theorem open_addr {fuel : Nat} {cs : List Value} {x : DataW H × List MemPlace} (h : DataW.trod enc Try.prog W base spare held fuel 24 cs = some x) :
    cs.length = 17 ∧ ∃ a : Addr, RepL β own w (encAddr a) cs := by
  obtain ⟨xs, n, _, _, hl, hx, hf⟩ := DataW.trod_struct Try.underlying24 h
  have hl : cs.length = 17 := hl.trans (by kernel_rfl)
  have hx : xs.length = 2 := hx
  have f0 : DataW.trod enc Try.prog W base spare held n 4 ((cs.drop 0).take (Try.prog.cellsOf 4)) = xs[0]? := hf 0 _ rfl
  have f1 : DataW.trod enc Try.prog W base spare held n 22 ((cs.drop 1).take (Try.prog.cellsOf 22)) = xs[1]? := hf 1 _ rfl
  have c4 : Try.prog.cellsOf 4 = 1 := by kernel_rfl
  have c22 : Try.prog.cellsOf 22 = 16 := by kernel_rfl
  have c5 : Try.prog.cellsOf 5 = 1 := by kernel_rfl
  rw [c4] at f0
  rw [c22] at f1
  rw [List.getElem?_eq_getElem (by omega)] at f0 f1
  obtain ⟨b, h0, _⟩ := DataW.trod_bool Try.underlying4 f0
  obtain ⟨zs, m, _, _, _, hz, hg⟩ := DataW.trod_array Try.underlying22 f1
  have hY : ∀ i : Nat, ∃ y : UInt8, i < 16 → cs[1 + i]? = some (.int .u8 (y.toNat : Int)) := by
    intro i
    by_cases hi : i < 16
    · have g := hg i hi
      rw [List.getElem?_eq_getElem (by omega)] at g
      obtain ⟨k, e1, _, e3⟩ := DataW.trod_int Try.underlying5 g
      obtain ⟨y, rfl⟩ := byte_of_wf e3
      refine ⟨y, fun _ => ?_⟩
      rw [c5, Nat.mul_one] at e1
      have e2 := cell_of_take e1
      rw [List.getElem?_take, if_pos hi, List.getElem?_drop] at e2
      exact e2
    · exact ⟨0, fun h => absurd h hi⟩
  obtain ⟨Y, hY⟩ := Classical.axiomOfChoice hY
  refine ⟨hl, ⟨b, Y 0, Y 1, Y 2, Y 3, Y 4, Y 5, Y 6, Y 7, Y 8, Y 9, Y 10, Y 11, Y 12, Y 13, Y 14, Y 15⟩, ?_⟩
  have c0 := cell_of_take h0
  refine RepL.ofGet (by rw [hl]; rfl) fun i x hi => ?_
  have key : ∀ (i : Nat) (x : SC), (encAddr ⟨b, Y 0, Y 1, Y 2, Y 3, Y 4, Y 5, Y 6, Y 7, Y 8, Y 9, Y 10, Y 11, Y 12, Y 13, Y 14, Y 15⟩)[i]? = some x → ∃ v, cs[i]? = some v ∧ RepS β own w x v
    | 0, x, h => by cases h; exact ⟨_, c0, rfl⟩
    | 1, x, h => by cases h; exact ⟨_, hY 0 (by omega), rfl⟩
    | 2, x, h => by cases h; exact ⟨_, hY 1 (by omega), rfl⟩
    | 3, x, h => by cases h; exact ⟨_, hY 2 (by omega), rfl⟩
    | 4, x, h => by cases h; exact ⟨_, hY 3 (by omega), rfl⟩
    | 5, x, h => by cases h; exact ⟨_, hY 4 (by omega), rfl⟩
    | 6, x, h => by cases h; exact ⟨_, hY 5 (by omega), rfl⟩
    | 7, x, h => by cases h; exact ⟨_, hY 6 (by omega), rfl⟩
    | 8, x, h => by cases h; exact ⟨_, hY 7 (by omega), rfl⟩
    | 9, x, h => by cases h; exact ⟨_, hY 8 (by omega), rfl⟩
    | 10, x, h => by cases h; exact ⟨_, hY 9 (by omega), rfl⟩
    | 11, x, h => by cases h; exact ⟨_, hY 10 (by omega), rfl⟩
    | 12, x, h => by cases h; exact ⟨_, hY 11 (by omega), rfl⟩
    | 13, x, h => by cases h; exact ⟨_, hY 12 (by omega), rfl⟩
    | 14, x, h => by cases h; exact ⟨_, hY 13 (by omega), rfl⟩
    | 15, x, h => by cases h; exact ⟨_, hY 14 (by omega), rfl⟩
    | 16, x, h => by cases h; exact ⟨_, hY 15 (by omega), rfl⟩
    | n + 17, x, h => by simp [encAddr] at h
  exact key i x hi

theorem open_exts {fuel : Nat} {cs : List Value} {x : DataW H × List MemPlace} (h : DataW.trod enc Try.prog W base spare held fuel 25 cs = some x) :
    ∃ v l, cs = [v] ∧ RepS (fun _ => none) (fun _ => True) W (.exts l false) v ∧ (l = [] ∨ ∃ elems rest, x.1 = .slice elems rest ∧ elems.length = l.length) := by
  have c36 : Try.prog.cellsOf 36 = 2 := by kernel_rfl
  have c3 : Try.prog.cellsOf 3 = 1 := by kernel_rfl
  have c9 : Try.prog.cellsOf 9 = 1 := by kernel_rfl
  rcases DataW.trod_slice Try.underlying25 h with ⟨rfl, _⟩ | ⟨a, len, cap, elems, rest, n, _, rfl, hx0, _, hlc, hcm, hel, hat, _⟩
  · exact ⟨_, [], rfl, ⟨none, 0, rfl, by decide, .inl rfl⟩, .inl rfl⟩
  · have hE : ∀ i : Nat, ∃ e : Ext, i < len → W.cell? (a.add (i * 2)) = some (.int .i64 e.kind) ∧ inR .i64 e.kind ∧ W.cell? (a.add (i * 2 + 1)) = some (.string ⟨⟨e.body⟩⟩) ∧ (e.body.length : Int) ≤ imax := by
      intro i
      by_cases hi : i < len
      · have g := hat i hi
        rw [List.getElem?_eq_getElem (by omega)] at g
        obtain ⟨cs', hc, ht⟩ := Option.bind_eq_some_iff.1 g
        rw [c36] at hc
        obtain ⟨_, hcl, hcat⟩ := World.cells?_some hc
        obtain ⟨ys, m, _, _, _, hy, hf⟩ := DataW.trod_struct Try.underlying36 ht
        have hy : ys.length = 2 := hy
        have f0 : DataW.trod enc Try.prog W base spare held m 3 ((cs'.drop 0).take (Try.prog.cellsOf 3)) = ys[0]? := hf 0 _ rfl
        have f1 : DataW.trod enc Try.prog W base spare held m 9 ((cs'.drop 1).take (Try.prog.cellsOf 9)) = ys[1]? := hf 1 _ rfl
        rw [c3] at f0
        rw [c9] at f1
        rw [List.getElem?_eq_getElem (by omega)] at f0 f1
        obtain ⟨k, e1, _, e3⟩ := DataW.trod_int Try.underlying3 f0
        obtain ⟨s, g1, _, g3⟩ := DataW.trod_string Try.underlying9 f1
        have q0 := hcat 0 (by omega)
        have q1 := hcat 1 (by omega)
        rw [cell_of_take e1] at q0
        rw [cell_of_take g1] at q1
        refine ⟨⟨k, s.data.toList⟩, fun _ => ⟨by simpa [Go.Addr.add] using q0, inR_of_wf e3, by rw [← Go.Deep.add_add]; exact q1, ?_⟩⟩
        show (s.data.toList.length : Int) ≤ imax
        have : s.data.toList.length = s.size := Array.length_toList
        rw [this]
        unfold maxLen at g3
        unfold imax
        omega
      · exact ⟨⟨0, []⟩, fun h => absurd h hi⟩
    obtain ⟨E, hE⟩ := Classical.axiomOfChoice hE
    refine ⟨_, (List.range len).map E, rfl, ⟨some a, cap, by simp, ?_, ?_⟩, .inr ⟨elems.map (·.1), rest.map (·.1), by rw [hx0], by simpa using hel⟩⟩
    · simp only [List.length_map, List.length_range]; unfold imax; unfold maxLen at hcm; omega
    · by_cases h0 : len = 0
      · left; subst h0; rfl
      · right
        obtain ⟨b, off, spot⟩ := a
        obtain ⟨q1, _⟩ := hE 0 (by omega)
        have hspot : spot = none := by simpa [Go.Addr.add] using World.cell?_spot q1
        subst hspot
        have hb : b < W.heap.size := by
          rcases Nat.lt_or_ge b W.heap.size with h | h
          · exact h
          · simp [World.cell?, Go.Addr.add, Array.getElem?_eq_none h] at q1
        refine ⟨b, off, rfl, hb, ⟨fun n h => (nomatch h), fun _ => trivial⟩, fun i e hi => ?_⟩
        rw [List.getElem?_map] at hi
        obtain ⟨j, hj, rfl⟩ := Option.map_eq_some_iff.1 hi
        have hil : i < len := by
          rcases Nat.lt_or_ge i len with h | h
          · exact h
          · rw [List.getElem?_eq_none (by simpa using h)] at hj; cases hj
        rw [List.getElem?_range hil] at hj
        cases hj
        have := hE i hil
        rw [addr_add, addr_add] at this
        rw [Nat.add_assoc]
        exact this

theorem open_packet {fuel : Nat} {cs : List Value} {x : DataW H × List MemPlace} (h : DataW.trod enc Try.prog W base spare held fuel 27 cs = some x) :
    ∃ p : Packet, RepL (fun _ => none) (fun _ => True) W (encPkt false p) cs ∧ ∃ parts, x.1 = .agg parts ∧ .lit (.string p.pay) ∈ parts ∧ .lit (.string p.opts) ∈ parts ∧ (p.exts = [] ∨ ∃ elems rest, .slice elems rest ∈ parts ∧ elems.length = p.exts.length) := by
  obtain ⟨xs, n, _, hxx, hl, hx, hf⟩ := DataW.trod_struct Try.underlying27 h
  have hl : cs.length = 46 := hl.trans (by kernel_rfl)
  have hx : xs.length = 14 := hx
  have c24 : Try.prog.cellsOf 24 = 17 := by kernel_rfl
  have c3 : Try.prog.cellsOf 3 = 1 := by kernel_rfl
  have c4 : Try.prog.cellsOf 4 = 1 := by kernel_rfl
  have c9 : Try.prog.cellsOf 9 = 1 := by kernel_rfl
  have c25 : Try.prog.cellsOf 25 = 1 := by kernel_rfl
  have slen : ∀ s : ByteArray, s.size ≤ maxLen → (s.data.toList.length : Int) ≤ imax := by
    intro s hs
    have : s.data.toList.length = s.size := Array.length_toList
    rw [this]
    unfold maxLen at hs
    unfold imax
    omega
  have f0 : DataW.trod enc Try.prog W base spare held n 24 ((cs.drop 0).take (Try.prog.cellsOf 24)) = xs[0]? := hf 0 _ rfl
  have f1 : DataW.trod enc Try.prog W base spare held n 24 ((cs.drop 17).take (Try.prog.cellsOf 24)) = xs[1]? := hf 1 _ rfl
  rw [c24] at f0 f1
  rw [List.getElem?_eq_getElem (by omega)] at f0 f1
  obtain ⟨_, src, hsrc⟩ := open_addr (β := fun _ => none) (own := fun _ => True) (w := W) f0
  obtain ⟨_, dst, hdst⟩ := open_addr (β := fun _ => none) (own := fun _ => True) (w := W) f1
  have f2 : DataW.trod enc Try.prog W base spare held n 3 ((cs.drop 34).take (Try.prog.cellsOf 3)) = xs[2]? := hf 2 _ rfl
  rw [c3] at f2
  rw [List.getElem?_eq_getElem (by omega)] at f2
  obtain ⟨n2, e2, _, w2⟩ := DataW.trod_int Try.underlying3 f2
  have g2 := cell_of_take e2
  have f3 : DataW.trod enc Try.prog W base spare held n 3 ((cs.drop 35).take (Try.prog.cellsOf 3)) = xs[3]? := hf 3 _ rfl
  rw [c3] at f3
  rw [List.getElem?_eq_getElem (by omega)] at f3
  obtain ⟨n3, e3, _, w3⟩ := DataW.trod_int Try.underlying3 f3
  have g3 := cell_of_take e3
  have f4 : DataW.trod enc Try.prog W base spare held n 3 ((cs.drop 36).take (Try.prog.cellsOf 3)) = xs[4]? := hf 4 _ rfl
  rw [c3] at f4
  rw [List.getElem?_eq_getElem (by omega)] at f4
  obtain ⟨n4, e4, _, w4⟩ := DataW.trod_int Try.underlying3 f4
  have g4 := cell_of_take e4
  have f5 : DataW.trod enc Try.prog W base spare held n 3 ((cs.drop 37).take (Try.prog.cellsOf 3)) = xs[5]? := hf 5 _ rfl
  rw [c3] at f5
  rw [List.getElem?_eq_getElem (by omega)] at f5
  obtain ⟨n5, e5, _, w5⟩ := DataW.trod_int Try.underlying3 f5
  have g5 := cell_of_take e5
  have f6 : DataW.trod enc Try.prog W base spare held n 3 ((cs.drop 38).take (Try.prog.cellsOf 3)) = xs[6]? := hf 6 _ rfl
  rw [c3] at f6
  rw [List.getElem?_eq_getElem (by omega)] at f6
  obtain ⟨n6, e6, _, w6⟩ := DataW.trod_int Try.underlying3 f6
  have g6 := cell_of_take e6
  have f7 : DataW.trod enc Try.prog W base spare held n 4 ((cs.drop 39).take (Try.prog.cellsOf 4)) = xs[7]? := hf 7 _ rfl
  rw [c4] at f7
  rw [List.getElem?_eq_getElem (by omega)] at f7
  obtain ⟨b7, e7, _⟩ := DataW.trod_bool Try.underlying4 f7
  have g7 := cell_of_take e7
  have f8 : DataW.trod enc Try.prog W base spare held n 4 ((cs.drop 40).take (Try.prog.cellsOf 4)) = xs[8]? := hf 8 _ rfl
  rw [c4] at f8
  rw [List.getElem?_eq_getElem (by omega)] at f8
  obtain ⟨b8, e8, _⟩ := DataW.trod_bool Try.underlying4 f8
  have g8 := cell_of_take e8
  have f9 : DataW.trod enc Try.prog W base spare held n 9 ((cs.drop 41).take (Try.prog.cellsOf 9)) = xs[9]? := hf 9 _ rfl
  rw [c9] at f9
  rw [List.getElem?_eq_getElem (by omega)] at f9
  obtain ⟨s9, e9, r9, w9⟩ := DataW.trod_string Try.underlying9 f9
  have g9 := cell_of_take e9
  have f10 : DataW.trod enc Try.prog W base spare held n 3 ((cs.drop 42).take (Try.prog.cellsOf 3)) = xs[10]? := hf 10 _ rfl
  rw [c3] at f10
  rw [List.getElem?_eq_getElem (by omega)] at f10
  obtain ⟨n10, e10, _, w10⟩ := DataW.trod_int Try.underlying3 f10
  have g10 := cell_of_take e10
  have f11 : DataW.trod enc Try.prog W base spare held n 25 ((cs.drop 43).take (Try.prog.cellsOf 25)) = xs[11]? := hf 11 _ rfl
  rw [c25] at f11
  rw [List.getElem?_eq_getElem (by omega)] at f11
  obtain ⟨v11, l11, e11, w11, r11⟩ := open_exts f11
  have g11 := cell_of_take e11
  have f12 : DataW.trod enc Try.prog W base spare held n 4 ((cs.drop 44).take (Try.prog.cellsOf 4)) = xs[12]? := hf 12 _ rfl
  rw [c4] at f12
  rw [List.getElem?_eq_getElem (by omega)] at f12
  obtain ⟨b12, e12, _⟩ := DataW.trod_bool Try.underlying4 f12
  have g12 := cell_of_take e12
  have f13 : DataW.trod enc Try.prog W base spare held n 9 ((cs.drop 45).take (Try.prog.cellsOf 9)) = xs[13]? := hf 13 _ rfl
  rw [c9] at f13
  rw [List.getElem?_eq_getElem (by omega)] at f13
  obtain ⟨s13, e13, r13, w13⟩ := DataW.trod_string Try.underlying9 f13
  have g13 := cell_of_take e13
  refine ⟨⟨src, dst, n2, n3, n4, n5, n6, b7, b8, s9.data.toList, n10, l11, b12, s13.data.toList⟩, ?_, xs.map (·.1), by rw [hxx], ?_, ?_, ?_⟩
  rotate_left
  · exact List.mem_map.2 ⟨xs[13], List.getElem_mem _, by rw [r13]⟩
  · exact List.mem_map.2 ⟨xs[9], List.getElem_mem _, by rw [r9]⟩
  · rcases r11 with h | ⟨elems, rest, h, hl⟩
    · exact .inl h
    · exact .inr ⟨elems, rest, List.mem_map.2 ⟨xs[11], List.getElem_mem _, h⟩, hl⟩
  have e : cs = cs.take 17 ++ ((cs.drop 17).take 17 ++ cs.drop 34) := by
    rw [show (34 : Nat) = 17 + 17 from rfl, ← List.drop_drop, List.take_append_drop, List.take_append_drop]
  rw [e]
  refine RepL.append (by simpa using hsrc) (RepL.append hdst ?_)
  refine RepL.ofGet (by simp [hl]) fun i x hi => ?_
  rw [List.getElem?_drop]
  have key : ∀ (i : Nat) (x : SC), ([.int .i64 (.sym n2), .int .i64 (.sym n3), .int .i64 (.sym n4), .int .i64 (.sym n5), .int .i64 (.sym n6), .bool (.sym b7), .bool (.sym b8), .str s9.data.toList, .int .i64 (.sym n10), .exts l11 false, .bool (.sym b12), .str s13.data.toList] : List SC)[i]? = some x →
      ∃ v, cs[34 + i]? = some v ∧ RepS (fun _ => none) (fun _ => True) W x v
    | 0, x, h => by cases h; exact ⟨_, g2, rfl, inR_of_wf w2⟩
    | 1, x, h => by cases h; exact ⟨_, g3, rfl, inR_of_wf w3⟩
    | 2, x, h => by cases h; exact ⟨_, g4, rfl, inR_of_wf w4⟩
    | 3, x, h => by cases h; exact ⟨_, g5, rfl, inR_of_wf w5⟩
    | 4, x, h => by cases h; exact ⟨_, g6, rfl, inR_of_wf w6⟩
    | 5, x, h => by cases h; exact ⟨_, g7, rfl⟩
    | 6, x, h => by cases h; exact ⟨_, g8, rfl⟩
    | 7, x, h => by cases h; exact ⟨_, g9, rfl, slen _ w9⟩
    | 8, x, h => by cases h; exact ⟨_, g10, rfl, inR_of_wf w10⟩
    | 9, x, h => by cases h; exact ⟨_, g11, w11⟩
    | 10, x, h => by cases h; exact ⟨_, g12, rfl⟩
    | 11, x, h => by cases h; exact ⟨_, g13, rfl, slen _ w13⟩
    | n + 12, x, h => by simp at h
  exact key i x hi
end
end Go.Adit
