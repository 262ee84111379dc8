/- Part of the proofs of the laws: lemmas and contracts, no statement of its own. -/
import Derived.Test.YtledohjnchnmhaaB6c
set_option linter.unusedVariables false
set_option linter.unusedSimpArgs false
namespace Go.Adit
open Go.RowKit Go.Proofs Go.Shelf
set_option maxRecDepth 100000
def Y21 (b8 b9 Bl : Nat) (k : Nat) : Prop := k < Bl ∧ k ≠ b8 ∧ k ≠ b9
def Ax21 (b8 b9 Bl : Nat) (x : GX) (a' : Act) (W : World) : Prop :=
  a'.defers = [] ∧ a'.tmps.size = 158 ∧ a'.tmps[8]? = some (.pointer (some ⟨b8, 0, none⟩)) ∧ a'.tmps[9]? = some (.pointer (some ⟨b9, 0, none⟩)) ∧
    ∃ Bx tx, Bl ≤ Bx ∧ a'.tmps[11]? = some (.pointer (some ⟨Bx, 0, none⟩)) ∧ W.heap[Bx]? = some (.cells ⟨[.int .i64 x.1.2.kind, .string ⟨⟨x.1.2.body⟩⟩]⟩ tx (0, 0))
theorem Ax21_own (b8 b9 Bl : Nat) (x : GX) (a' : Act) : OwnFrom Bl (fun (_ : Unit) W => Ax21 b8 b9 Bl x a' W) := by
  rintro _ W W' row ⟨h1, h2, h3, h4, Bx, tx, h5, h6, h7⟩ hg hr
  exact ⟨h1, h2, h3, h4, Bx, tx, h5, h6, (grownBy_keeps_cells hg (fun r e => (hr r e).2) h7 rfl).trans h7⟩

def β2R (b8 b9 : Nat) : Nat → Option Nat := fun n => if n = 1000008 then some b8 else if n = 1000009 then some b9 else none
def bA (W : World) (b8 b9 : Nat) : Base := ⟨W, fun k => k = b8 ∨ k = b9, [], lbR b8 b9 0⟩
def vA (x : Ext) : List (Nat × D) := [(8, .s (.ptr 1000008 0)), (9, .s (.ptr 1000009 0)), (119, .agg [.int .i64 (.sym x.kind), .str x.body])]
def mA (kd : Int) (rs : (List UInt8)) (t8 t9 : Nat) : List (Nat × Blk) := [(1000008, ⟨[.int .i64 (.sym kd)], t8⟩), (1000009, ⟨[.str rs], t9⟩)]
theorem β2R_some {b8 b9 n b : Nat} (h : β2R b8 b9 n = some b) : (n = 1000008 ∧ b = b8) ∨ (n = 1000009 ∧ b = b9) := by
  unfold β2R at h
  split at h
  · rename_i e; exact .inl ⟨e, by simpa using h.symm⟩
  · split at h
    · rename_i e; exact .inr ⟨e, by simpa using h.symm⟩
    · cases h
theorem relA {W : World} {b8 b9 t8 t9 : Nat} {kd : Int} {rs : (List UInt8)} {x : Ext} {a : Act} (h89 : b8 ≠ b9) (hk : inR .i64 kd) (hrs : (rs.length : Int) ≤ imax) (hx : GoodE x)
    (r8 : W.heap[b8]? = some (.cells ⟨[.int .i64 kd]⟩ t8 (0, 0))) (r9 : W.heap[b9]? = some (.cells ⟨[.string ⟨⟨rs⟩⟩]⟩ t9 (0, 0)))
    (hsz : a.tmps.size = 158) (hd : a.defers = []) (p8 : a.tmps[8]? = some (.pointer (some ⟨b8, 0, none⟩))) (p9 : a.tmps[9]? = some (.pointer (some ⟨b9, 0, none⟩))) (px : a.tmps[119]? = some (extV x)) :
    Rel (bA W b8 b9) 158 (St.of (vA x) (mA kd rs t8 t9)) (β2R b8 b9) a W := by
  have lt : ∀ {b : Nat} {o : Obj}, W.heap[b]? = some o → b < W.heap.size := fun h => (Array.getElem?_eq_some_iff.1 h).1
  have e8 : β2R b8 b9 1000008 = some b8 := rfl
  have e9 : β2R b8 b9 1000009 = some b9 := rfl
  have hxl : (x.body.length : Int) ≤ imax := by have := hx.1; unfold imax; omega
  refine ⟨hsz, fun t d ht => ?_, fun n blk hn => ?_, fun n hh hn => ?_, fun n hh => ?_, fun n n' b h h' => ?_, fun n b h => ?_, Kept.refl, hd, fun n b _ hb b' h' => ?_⟩
  · have ht : lookT (vA x) t = some d := ht
    simp only [vA, lookT] at ht
    split at ht
    · rename_i e; obtain rfl := Nat.eq_of_beq_eq_true e; cases ht; exact ⟨_, p8, _, e8, rfl⟩
    · split at ht
      · rename_i e; obtain rfl := Nat.eq_of_beq_eq_true e; cases ht; exact ⟨_, p9, _, e9, rfl⟩
      · split at ht
        · rename_i e; obtain rfl := Nat.eq_of_beq_eq_true e; cases ht; exact ⟨_, px, _, rfl, ⟨⟨rfl, hx.2⟩, ⟨rfl, hxl⟩, trivial⟩⟩
        · cases ht
  · have hn : lookM (mA kd rs t8 t9) n = some blk := hn
    simp only [mA, lookM] at hn
    split at hn
    · rename_i e; obtain rfl := Nat.eq_of_beq_eq_true e; cases hn; exact ⟨_, _, _, e8, r8, ⟨⟨rfl, hk⟩, trivial⟩, rfl⟩
    · split at hn
      · rename_i e; obtain rfl := Nat.eq_of_beq_eq_true e; cases hn; exact ⟨_, _, _, e9, r9, ⟨⟨rfl, hrs⟩, trivial⟩, rfl⟩
      · cases hn
  · have hn : lookM (mA kd rs t8 t9) n = none := hn
    cases hl : β2R b8 b9 n with
    | none => rfl
    | some b =>
      rcases β2R_some hl with ⟨rfl, _⟩ | ⟨rfl, _⟩ <;> cases hn
  · show lookM (mA kd rs t8 t9) n = none
    simp only [mA, lookM]
    split
    · rename_i e; obtain rfl := Nat.eq_of_beq_eq_true e; exact absurd hh (by decide)
    · split
      · rename_i e; obtain rfl := Nat.eq_of_beq_eq_true e; exact absurd hh (by decide)
      · rfl
  · rcases β2R_some h with ⟨r1, r2⟩ | ⟨r1, r2⟩ <;> rcases β2R_some h' with ⟨r3, r4⟩ | ⟨r3, r4⟩ <;> omega
  · rcases β2R_some h with ⟨r1, r2⟩ | ⟨r1, r2⟩ <;> subst r2
    · exact ⟨.inr (.inl rfl), lt r8⟩
    · exact ⟨.inr (.inr rfl), lt r9⟩
  · have hb : lbR b8 b9 0 n = some b := hb
    rcases β2R_some h' with ⟨r1, r2⟩ | ⟨r1, r2⟩ <;> rcases lbR_some hb with ⟨r3, r4⟩ | ⟨r3, r4⟩ | ⟨r3, r4⟩ <;> omega

noncomputable def ops19 : Array Oper := opsOf (rfAs (spineX (bodyOf Try.f21)))
theorem run19 (kd : Int) (rs : (List UInt8)) (x : Ext) (t8 t9 : Nat) : ∃ s', regRun cfg21 zs ops19 [] ops19.toList 0 (St.of (vA x) (mA kd rs t8 t9)) [] none = .ok s' [] ∧
    s'.t 8 = some (.s (.ptr 1000008 0)) ∧ s'.t 9 = some (.s (.ptr 1000009 0)) ∧ s'.t 11 = some (.s (.ptr 11 0)) ∧ s'.m 1000008 = some ⟨[.int .i64 (.sym kd)], t8⟩ ∧ s'.m 1000009 = some ⟨[.str rs], t9⟩ ∧ s'.m 11 = some ⟨[.int .i64 (.sym x.kind), .str x.body], 36⟩ :=
  ⟨outSt2 (regRun cfg21 zs ops19 [] ops19.toList 0 (St.of (vA x) (mA kd rs t8 t9)) [] none), (by kernel_rfl), (by kernel_rfl), (by kernel_rfl), (by kernel_rfl), (by kernel_rfl), (by kernel_rfl), (by kernel_rfl)⟩

section
variable {w W : World} {p : Packet} {a a0 : Act} {b8 b9 Bl : Nat} {pre : List GX} {x : GX}
/-- what of the world a round may turn -/
theorem turns {W' : World} {bx : Nat} {X : Nat → Prop} {lb : Nat → Option Nat} {o8 o9 : Obj} (hK : Kept ⟨W, X, [], lb⟩ W') (hX : ∀ k, X k → k = b8 ∨ k = b9 ∨ k = bx) (hbx : Bl ≤ bx)
    (h8 : W.heap[b8]? = some o8) (c8 : o8.isCells = true) (h9 : W.heap[b9]? = some o9) (c9 : o9.isCells = true) (hx : ∀ o, W.heap[bx]? = some o → o.isCells = true) (hBl : Bl ≤ W.heap.size) :
    KeepsFrom Bl W W' ∧ KpY (Y21 b8 b9 Bl) W W' ∧ (∀ k, k < Bl → k ≠ b8 → k ≠ b9 → W'.heap[k]? = W.heap[k]?) := by
  have lt : ∀ {b : Nat} {o : Obj}, W.heap[b]? = some o → b < W.heap.size := fun h => (Array.getElem?_eq_some_iff.1 h).1
  refine ⟨⟨hK.size, fun k o hB hk ho => ?_⟩, fun k hk o hko hc => ?_, fun k hk n8 n9 => ?_⟩
  · refine (hK.block k (lt hk) (fun hx' => ?_)).trans hk
    rcases hX k hx' with rfl | rfl | rfl
    · rw [h8] at hk; cases hk; rw [c8] at ho; cases ho
    · rw [h9] at hk; cases hk; rw [c9] at ho; cases ho
    · rw [hx o hk] at ho; cases ho
  · refine (hK.block k (lt hko) (fun hx' => ?_)).trans hko
    obtain ⟨q1, q2, q3⟩ := hk
    rcases hX k hx' with rfl | rfl | rfl <;> omega
  · refine hK.block k (Nat.lt_of_lt_of_le hk hBl) (fun hx' => ?_)
    rcases hX k hx' with rfl | rfl | rfl <;> omega

theorem assign21 (hwl : w.heap.size ≤ Bl) (hI : I21 w p a b8 b9 Bl pre W) (hsz : a0.tmps.size = 158) (hd : a0.defers = []) (p8 : a0.tmps[8]? = some (.pointer (some ⟨b8, 0, none⟩))) (p9 : a0.tmps[9]? = some (.pointer (some ⟨b9, 0, none⟩)))
    (px : a0.tmps[119]? = some (extV x.1.2)) {l n : Nat} {K : Act → World → Prop} (hK : ∀ a' W', KeepsFrom Bl W W' → KpY (Y21 b8 b9 Bl) W W' → I21 w p a b8 b9 Bl pre W' → Ax21 b8 b9 Bl x a' W' → K a' W') :
    (rfAs (spineX (bodyOf Try.f21))).wpIn (Fence.wide.inRound l) n Try.prog (Exit.then K (fun _ _ _ => False)) a0 W := by
  obtain ⟨β, hR, e8, e9, hlt, hlen, hBl⟩ := hI
  obtain ⟨⟨t8, r8⟩, hk⟩ := raw8 hR e8
  obtain ⟨⟨t9, r9⟩, hrs⟩ := raw9 hR e9
  have h89 : b8 ≠ b9 := fun e => by subst e; have := hR.inj _ _ _ e8 e9; omega
  have hRA := relA h89 hk hrs x.2 r8 r9 hsz hd p8 p9 px
  obtain ⟨s', q1, m1, m2, m3, m4, m5, m6⟩ := run19 (st6 p pre).1 (st6 p pre).2 x.1.2 t8 t9
  have eb : rfAs (spineX (bodyOf Try.f21)) = .region 19 ops19 false := by kernel_rfl
  rw [eb]
  refine region_inRound (draw := false) env21 rfl (fun h => nomatch h) (by kernel_rfl) q1 (fun _ h => nomatch h) hRA (fun ⟨_, _, h⟩ => h) fun β' a' W' hR' => ?_
  have g : ∀ n b b', 1000000 ≤ n → lbR b8 b9 0 n = some b → β' n = some b' → b' = b := fun n b b' hn hb h => hR'.lnt n b hn hb b' h
  obtain ⟨v8, y8, c8, z8, rfl⟩ := hR'.tm 8 _ m1
  obtain ⟨v9, y9, c9, z9, rfl⟩ := hR'.tm 9 _ m2
  obtain ⟨vx, yx, cx, zx, rfl⟩ := hR'.tm 11 _ m3
  have gc8 : c8 = b8 := g 1000008 b8 c8 (by omega) (show lbR b8 b9 0 1000008 = some b8 from rfl) z8
  have gc9 : c9 = b9 := g 1000009 b9 c9 (by omega) (show lbR b8 b9 0 1000009 = some b9 from rfl) z9
  subst gc8 gc9
  obtain ⟨d8, cs8, ty8, f8, k8, u8, _⟩ := hR'.mem _ _ m4
  obtain ⟨d9, cs9, ty9, f9, k9, u9, _⟩ := hR'.mem _ _ m5
  obtain ⟨dx, csx, tyx, fx, kx, ux, _⟩ := hR'.mem _ _ m6
  rw [z8] at f8; cases f8
  rw [z9] at f9; cases f9
  rw [zx] at fx; cases fx
  obtain ⟨rfl, _⟩ := repL_int u8
  obtain ⟨rfl, _⟩ := repL_str u9
  obtain rfl := repL_ext ux
  have nx8 : cx ≠ c8 := fun e => by subst e; have := hR'.inj _ _ _ zx z8; omega
  have nx9 : cx ≠ c9 := fun e => by subst e; have := hR'.inj _ _ _ zx z9; omega
  have hbx : W.heap.size ≤ cx := by
    rcases (hR'.new 11 cx zx).1 with h | h
    · exact h
    · rcases h with h | h
      · exact absurd h nx8
      · exact absurd h nx9
  obtain ⟨t1, t2, t3⟩ := turns (Bl := Bl) (bx := cx) hR'.bel (fun k hk => by rcases hk with h | h; exact .inl h; exact .inr (.inl h)) (by omega) r8 rfl r9 rfl (fun o h => by rw [Array.getElem?_eq_none hbx] at h; cases h) hBl
  refine hK a' W' t1 t2 ⟨β, swap21 hR e8 e9 hlt hR'.bel.size hwl hR'.bel.os hR'.bel.tape hR'.bel.output t3 (fun k o v hk n8 n9 hv => ?_) k8 k9 hk hrs, e8, e9, hlt, hlen, Nat.le_trans hBl hR'.bel.size⟩ ⟨hR'.dfr, hR'.sz, y8, y9, cx, tyx, by omega, yx, kx⟩
  exact (World.cell?_of_block (w := W) (hR'.bel.block k hk (fun hx => by rcases hx with h | h; exact n8 h; exact n9 h))).trans hv

theorem body21 (hwl : w.heap.size ≤ Bl) (hI : I21 w p a b8 b9 Bl pre W) (hAx : Ax21 b8 b9 Bl x a0 W) (hN : pre.length < 10) {l n : Nat} {Ix : Code → List GX → World → Prop} :
    (Code.block 1 (rfBd (spineX (bodyOf Try.f21)))).wpIn (Fence.wide.inRound l) n Try.prog (ownPostG Bl (KpY (Y21 b8 b9 Bl)) (I21 w p a b8 b9 Bl) Ix (pre ++ [x]) W) a0 W := by
  obtain ⟨β, hR, e8, e9, hlt, hlen, hBl⟩ := hI
  obtain ⟨⟨t8, r8⟩, hk⟩ := raw8 hR e8
  obtain ⟨⟨t9, r9⟩, hrs⟩ := raw9 hR e9
  obtain ⟨hd, hsz, p8, p9, Bx, tx, hbx, px, rx⟩ := hAx
  have h89 : b8 ≠ b9 := fun e => by subst e; have := hR.inj _ _ _ e8 e9; omega
  have l8 := hlt _ _ e8
  have l9 := hlt _ _ e9
  have hx := x.2
  refine wpIn_block (round21 h89 (by omega) (by omega) hk (by unfold imax; omega) hx r8 r9 rx hsz hd p8 p9 px (fun ⟨_, _, h⟩ => h) fun a' W' t8' t9' tx' hK h8 h9 hxx => ?_)
  obtain ⟨t1, t2, t3⟩ := turns (Bl := Bl) (bx := Bx) hK (fun k hk => hk) hbx r8 rfl r9 rfl (fun o h => by rw [rx] at h; cases h; rfl) hBl
  have hl : (step6 (st6 p pre) x.1.2).2.length ≤ 2 ^ 41 + 4000 * (pre.length + 1) := by
    have := hx.1
    simp only [step6, ext1, lsCat, List.length_append, fPut_len]
    omega
  refine ⟨t1, t2, β, ?_, e8, e9, hlt, ?_, Nat.le_trans hBl hK.size⟩
  · rw [st6_snoc]
    refine swap21 hR e8 e9 hlt hK.size hwl hK.os hK.tape hK.output t3 (fun k o v hk n8 n9 hv => ?_) h8 h9 hx.2 (by unfold imax; omega)
    by_cases e : k = Bx
    · subst e
      refine Eq.trans ?_ hv
      simp only [World.cell?, rx, hxx]
    · exact (World.cell?_of_block (w := W) (hK.block k hk (fun hx => by rcases hx with h | h | h; exact n8 h; exact n9 h; exact e h))).trans hv
  · rw [st6_snoc, List.length_append]
    exact hl
end
end Go.Adit
