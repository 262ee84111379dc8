/- Part of the proofs of the laws: lemmas and contracts, no statement of its own. -/
import Derived.Test.YtledohjnchnmhaaB6b
set_option linter.unusedVariables false
set_option linter.unusedSimpArgs false
namespace Go.Adit
open Go.RowKit Go.Proofs Go.Shelf
set_option maxRecDepth 100000
def kind0 (p : Packet) : Int := if p.cut then 44 else p.proto
def frag (p : Packet) : (List UInt8) := lsCat (lsCat (lsCat (fPut (liConv .u64 p.proto) 1) (fPut (liConv .u64 (liLit 0)) 1)) (fPut (liConv .u64 (liOr .i64 p.off (fFlag p.more (liLit 1)))) 2)) (fPut (liConv .u64 p.id) 4)
def rest0 (p : Packet) : (List UInt8) := if p.cut then lsCat (frag p) p.pay else p.pay
def step6 (s : Int × (List UInt8)) (x : Ext) : Int × (List UInt8) := (x.kind, lsCat (ext1 s.1 x) s.2)
def st6 (p : Packet) (xs : List GX) : Int × (List UInt8) := xs.foldl (fun s x => step6 s x.1.2) (kind0 p, rest0 p)
theorem st6_snoc (p : Packet) (xs : List GX) (x : GX) : st6 p (xs ++ [x]) = step6 (st6 p xs) x.1.2 := by simp [st6]
def v21 (p : Packet) : List (Nat × D) := [(1, .s (.ptr 1 0)), (5, .s (.int .i64 (.sym (liAdd .i64 (fHead p) (liLen p.pay))))), (6, .s (.str (fEnds p))), (8, .s (.ptr 8 0)), (9, .s (.ptr 9 0))]
def m21 (p : Packet) (s : Int × (List UInt8)) : List (Nat × Blk) := [(1, ⟨encPkt false p, 27⟩), (8, ⟨[.int .i64 (.sym s.1)], 3⟩), (9, ⟨[.str s.2], 9⟩)]

section
variable {w W W' : World} {p : Packet} {s s' : Int × (List UInt8)} {β : Nat → Option Nat} {a : Act} {b8 b9 Bl : Nat}
def b0 (w : World) : Base := ⟨w, fun _ => False, [], noPin⟩

theorem raw8 (hR : Rel (b0 w) 158 (St.of (v21 p) (m21 p s)) β a W) (e8 : β 8 = some b8) : (∃ t8, W.heap[b8]? = some (.cells ⟨[.int .i64 s.1]⟩ t8 (0, 0))) ∧ inR .i64 s.1 := by
  obtain ⟨b, cs, ty, h1, h2, h3, _⟩ := hR.mem 8 ⟨[.int .i64 (.sym s.1)], 3⟩ rfl
  rw [e8] at h1; cases h1
  obtain ⟨rfl, hk⟩ := repL_int h3
  exact ⟨⟨ty, h2⟩, hk⟩
theorem raw9 (hR : Rel (b0 w) 158 (St.of (v21 p) (m21 p s)) β a W) (e9 : β 9 = some b9) : (∃ t9, W.heap[b9]? = some (.cells ⟨[.string ⟨⟨s.2⟩⟩]⟩ t9 (0, 0))) ∧ (s.2.length : Int) ≤ imax := by
  obtain ⟨b, cs, ty, h1, h2, h3, _⟩ := hR.mem 9 ⟨[.str s.2], 9⟩ rfl
  rw [e9] at h1; cases h1
  obtain ⟨rfl, hk⟩ := repL_str h3
  exact ⟨⟨ty, h2⟩, hk⟩
theorem slot8 (hR : Rel (b0 w) 158 (St.of (v21 p) (m21 p s)) β a W) (e8 : β 8 = some b8) : a.tmps[8]? = some (.pointer (some ⟨b8, 0, none⟩)) := by
  obtain ⟨v, h1, b, h2, rfl⟩ := hR.tm 8 (.s (.ptr 8 0)) rfl
  rw [e8] at h2; cases h2; exact h1
theorem slot9 (hR : Rel (b0 w) 158 (St.of (v21 p) (m21 p s)) β a W) (e9 : β 9 = some b9) : a.tmps[9]? = some (.pointer (some ⟨b9, 0, none⟩)) := by
  obtain ⟨v, h1, b, h2, rfl⟩ := hR.tm 9 (.s (.ptr 9 0)) rfl
  rw [e9] at h2; cases h2; exact h1

theorem swap21 (hR : Rel (b0 w) 158 (St.of (v21 p) (m21 p s)) β a W) (e8 : β 8 = some b8) (e9 : β 9 = some b9) (hlt : ∀ n b, β n = some b → b < Bl) (hsz : W.heap.size ≤ W'.heap.size) (hwl : w.heap.size ≤ Bl)
    (ho : W'.os = W.os) (ht : W'.tape = W.tape) (hu : W'.output = W.output) (hblk : ∀ k, k < Bl → k ≠ b8 → k ≠ b9 → W'.heap[k]? = W.heap[k]?)
    (hcel : ∀ k o v, k < W.heap.size → k ≠ b8 → k ≠ b9 → W.cell? ⟨k, o, none⟩ = some v → W'.cell? ⟨k, o, none⟩ = some v)
    {t8 t9 : TypeId} (h8 : W'.heap[b8]? = some (.cells ⟨[.int .i64 s'.1]⟩ t8 (0, 0))) (h9 : W'.heap[b9]? = some (.cells ⟨[.string ⟨⟨s'.2⟩⟩]⟩ t9 (0, 0))) (hk : inR .i64 s'.1) (hl : (s'.2.length : Int) ≤ imax) :
    Rel (b0 w) 158 (St.of (v21 p) (m21 p s')) β a W' := by
  have st : Step β β W W' := ⟨fun b o v hb hn hv => hcel b o v hb (fun e => hn 8 (by rw [e]; exact e8)) (fun e => hn 9 (by rw [e]; exact e9)) hv, hsz, fun _ _ h => h, fun _ _ h => h, fun _ _ h => h, fun n b o hh hb ho => (by
    rw [hblk b (hlt n b hb) (fun e => by have := hR.inj n 8 b8 (e ▸ hb) e8; subst this; exact absurd hh (by decide)) (fun e => by have := hR.inj n 9 b9 (e ▸ hb) e9; subst this; exact absurd hh (by decide))]; exact ho)⟩
  refine ⟨hR.sz, fun t d hd => ?_, fun n blk hn => ?_, fun n hh hn => ?_, fun n hh => ?_, hR.inj, fun n b h => ?_, ?_, hR.dfr, hR.lnt⟩
  · obtain ⟨v, h1, h2⟩ := hR.tm t d hd
    exact ⟨v, h1, h2.mono st⟩
  · have hn : lookM (m21 p s') n = some blk := hn
    simp only [m21, lookM] at hn
    split at hn
    · rename_i e
      obtain rfl := Nat.eq_of_beq_eq_true e
      cases hn
      obtain ⟨b, cs, ty, q1, q2, q3, q4⟩ := hR.mem 1 ⟨encPkt false p, 27⟩ rfl
      have n8 : b ≠ b8 := fun e => by subst e; have := hR.inj _ _ _ q1 e8; omega
      have n9 : b ≠ b9 := fun e => by subst e; have := hR.inj _ _ _ q1 e9; omega
      exact ⟨b, cs, ty, q1, (hblk b (hlt _ _ q1) n8 n9).trans q2, q3.mono st, q4⟩
    · split at hn
      · rename_i e; obtain rfl := Nat.eq_of_beq_eq_true e; cases hn; exact ⟨_, _, _, e8, h8, ⟨⟨rfl, hk⟩, trivial⟩, rfl⟩
      · split at hn
        · rename_i e; obtain rfl := Nat.eq_of_beq_eq_true e; cases hn; exact ⟨_, _, _, e9, h9, ⟨⟨rfl, hl⟩, trivial⟩, rfl⟩
        · cases hn
  · refine hR.dom n hh ?_
    have hn : lookM (m21 p s') n = none := hn
    show lookM (m21 p s) n = none
    simp only [m21, lookM] at hn ⊢
    split at hn
    · cases hn
    · split at hn
      · cases hn
      · split at hn
        · cases hn
        · rfl
  · show lookM (m21 p s') n = none
    simp only [m21, lookM]
    split
    · rename_i e; obtain rfl := Nat.eq_of_beq_eq_true e; exact absurd hh (by decide)
    · split
      · rename_i e; obtain rfl := Nat.eq_of_beq_eq_true e; exact absurd hh (by decide)
      · split
        · rename_i e; obtain rfl := Nat.eq_of_beq_eq_true e; exact absurd hh (by decide)
        · rfl
  · exact ⟨(hR.new n b h).1, Nat.lt_of_lt_of_le (hR.new n b h).2 hsz⟩
  · refine ⟨ho.trans hR.bel.os, ht.trans hR.bel.tape, hu.trans hR.bel.output, Nat.le_trans hR.bel.size hsz, fun k hk hx => ?_⟩
    have m8 : w.heap.size ≤ b8 := ((hR.new 8 b8 e8).1).resolve_right (fun h => h)
    have m9 : w.heap.size ≤ b9 := ((hR.new 9 b9 e9).1).resolve_right (fun h => h)
    have hk : k < w.heap.size := hk
    rw [hblk k (by omega) (by omega) (by omega)]
    exact hR.bel.block k hk hx

/-- between two rounds -/
def I21 (w : World) (p : Packet) (a : Act) (b8 b9 Bl : Nat) (pre : List GX) (W : World) : Prop :=
  ∃ β, Rel (b0 w) 158 (St.of (v21 p) (m21 p (st6 p pre))) β a W ∧ β 8 = some b8 ∧ β 9 = some b9 ∧ (∀ n b, β n = some b → b < Bl) ∧ (st6 p pre).2.length ≤ 2 ^ 41 + 4000 * pre.length ∧ Bl ≤ W.heap.size

theorem I21_own (hwl : w.heap.size ≤ Bl) : OwnFrom Bl (I21 w p a b8 b9 Bl) := by
  rintro pre W W' row ⟨β, h1, h2, h3, h4, h5, h6⟩ hg hr
  exact ⟨β, h1.grown6 hg (fun r e => ⟨Nat.le_trans hwl (hr r e).1, (hr r e).2⟩) (fun n b r hb e => by have := h4 n b hb; have := (hr r e).1; omega), h2, h3, h4, h5, Nat.le_trans h6 hg.size⟩
end
end Go.Adit
