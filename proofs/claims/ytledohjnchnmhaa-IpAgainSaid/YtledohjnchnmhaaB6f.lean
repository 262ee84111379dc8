/- Part of the proofs of the laws: lemmas and contracts, no statement of its own. -/
import Derived.Test.YtledohjnchnmhaaB6e
set_option linter.unusedVariables false
set_option linter.unusedSimpArgs false
namespace Go.Adit
open Go.RowKit Go.Proofs Go.Shelf
set_option maxRecDepth 100000
noncomputable def ops18 : Array Oper := opsOf (seq1 (spineX (bodyOf Try.f21)))
theorem size18 : ops18.size = 3 := by kernel_rfl
noncomputable def o18 (i : Nat) (h : i < 3) : Oper := ops18[i]'(by rw [size18]; exact h)
theorem o18_at (i : Nat) (h : i < 3) : ops18[i]? = some (o18 i h) := Array.getElem?_eq_getElem (by rw [size18]; exact h)
theorem o18_2 : (o18 2 (by omega)).op = .call { callee := .value (.func 59), args := #[.tmp 116], argTypes := #[25] } ∧ (o18 2 (by omega)).dst = some 117 ∧ (o18 2 (by omega)).guard = none := ⟨by kernel_rfl, by kernel_rfl, by kernel_rfl⟩
def optSt : Option St → St
  | some s => s
  | none => St.of [] []
theorem run18 (p : Packet) (s : Int × (List UInt8)) : ∃ s1 s2, stepD cfg21 zs ops18 [] none 0 (o18 0 (by omega)) (St.of (v21 p) (m21 p s)) = some s1 ∧ stepD cfg21 zs ops18 [] none 1 (o18 1 (by omega)) s1 = some s2 ∧ s2.t 116 = some (.s (.exts p.exts false)) ∧
    s2.t 1 = some (.s (.ptr 1 0)) ∧ s2.t 5 = some (.s (.int .i64 (.sym (liAdd .i64 (fHead p) (liLen p.pay))))) ∧ s2.t 6 = some (.s (.str (fEnds p))) ∧ s2.t 8 = some (.s (.ptr 8 0)) ∧ s2.t 9 = some (.s (.ptr 9 0)) ∧ s2.m = lookM (m21 p s) :=
  ⟨optSt (stepD cfg21 zs ops18 [] none 0 (o18 0 (by omega)) (St.of (v21 p) (m21 p s))), optSt (stepD cfg21 zs ops18 [] none 1 (o18 1 (by omega)) (optSt (stepD cfg21 zs ops18 [] none 0 (o18 0 (by omega)) (St.of (v21 p) (m21 p s))))),
    by kernel_rfl, by kernel_rfl, by kernel_rfl, by kernel_rfl, by kernel_rfl, by kernel_rfl, by kernel_rfl, by kernel_rfl, by kernel_rfl⟩

theorem Rel.less {w0 : Base} {N : Nat} {s : St} {β : Nat → Option Nat} {a : Act} {w : World} (h : Rel w0 N s β a w) {t' : Nat → Option D} (ht : ∀ t d, t' t = some d → s.t t = some d) {m' : Nat → Option Blk} (hm : s.m = m') : Rel w0 N ⟨t', m'⟩ β a w := by
  subst hm
  exact ⟨h.sz, fun t d hd => h.tm t d (ht t d hd), h.mem, h.dom, h.nhid, h.inj, h.new, h.bel, h.dfr, h.lnt⟩
theorem Rel.putAny {w0 : Base} {N : Nat} {s : St} {β : Nat → Option Nat} {a : Act} {w : World} (h : Rel w0 N s β a w) {k : Nat} (hk : s.t k = none) (v : Value) : Rel w0 N s β (a.put (some k) v) w := by
  refine ⟨by simpa [Act.put] using h.sz, fun t d hd => ?_, h.mem, h.dom, h.nhid, h.inj, h.new, h.bel, by simpa [Act.put] using h.dfr, h.lnt⟩
  obtain ⟨u, h1, h2⟩ := h.tm t d hd
  refine ⟨u, ?_, h2⟩
  have : k ≠ t := fun e => by subst e; rw [hk] at hd; cases hd
  simp only [Act.put]
  rw [Array.getElem?_setIfInBounds_ne this]
  exact h1

theorem hgood {p : Packet} (h : fRight p = true) (hv : p.src.v6 = true) : ∀ e ∈ p.exts, GoodE e := by
  have h2 : fExts 0 p.exts = true := by
    unfold fRight at h
    simp only [hv, if_true, Bool.and_eq_true] at h
    exact h.2.1
  have key : ∀ (l : List Ext) (i : Nat), fExts i l = true → ∀ e ∈ l, GoodE e := by
    intro l
    induction l with
    | nil => intro i _ e he; cases he
    | cons x l ih =>
      intro i hx e he
      simp only [fExts, Bool.and_eq_true] at hx
      rcases List.mem_cons.1 he with rfl | he
      · have h1 := hx.1
        simp only [fExt, Bool.and_eq_true, Bool.or_eq_true, beq_iff_eq, lbLe_t] at h1
        have hl : (e.body.length : Int) ≤ 2046 := h1.2
        refine ⟨by omega, ?_⟩
        have : e.kind = 0 ∨ e.kind = 43 ∨ e.kind = 60 := by
          rcases h1.1.1 with (h | h) | h
          · exact .inl h.1
          · exact .inr (.inl h)
          · exact .inr (.inr h)
        unfold inR
        have h1 : IntKind.min .i64 = -9223372036854775808 := rfl
        have h2 : IntKind.max .i64 = 9223372036854775807 := rfl
        rw [h1, h2]
        omega
      · exact ih (i + 1) hx.2 e he
  exact key _ 0 h2

def out6 (p : Packet) (hg : ∀ e ∈ p.exts, GoodE e) : Int × (List UInt8) := st6 p (upto (backG p.exts hg) p.exts.length)

set_option maxHeartbeats 1000000 in
theorem loop21 {w W : World} {p : Packet} {a : Act} {β : Nat → Option Nat} {r : D} (hp : p.pay.length ≤ 2 ^ 40) (hg : ∀ e ∈ p.exts, GoodE e) (hn4 : p.exts.length ≤ 4) (hr : (D.tup [.s (.str (fSixOf p (out6 p hg))), .s (.int .i64 (.lit 0))]).norm = r.norm) (hR : Rel (b0 w) 158 (St.of (v21 p) (m21 p (kind0 p, rest0 p))) β a W) :
    ((spineX (bodyOf Try.f21)).seq (spineT (bodyOf Try.f21))).wp Try.prog (bodyPostM Fence.wide 3 Try.prog Try.f21 (R21 w r)) a W := by
  have ex : spineX (bodyOf Try.f21) = .seq (.region 18 ops18 false) (.block 0 (.rangeFunc (.tmp 117) #[118, 119] (rfAs (spineX (bodyOf Try.f21))) (.block 1 (rfBd (spineX (bodyOf Try.f21)))))) := by kernel_rfl
  refine wp_seq ?_
  rw [ex]
  refine wp_seq (wp_region ?_)
  rw [show List.range ops18.size = [0, 1, 2] by rw [size18]; rfl]
  obtain ⟨s1, s2, q1, q2, m116, n1, n5, n6, n8, n9, nm⟩ := run18 p (kind0 p, rest0 p)
  rw [wpOps_cons]
  refine step_sound env21 rfl hR (o18_at 0 (by omega)) rfl q1 fun β1 a1 W1 hR1 => ?_
  rw [wpOps_cons]
  refine step_sound env21 rfl hR1 (o18_at 1 (by omega)) rfl q2 fun β a2 W hR2 => ?_
  rw [wpOps_cons]
  unfold wpOp
  rw [o18_at 2 (by omega)]
  simp only
  rw [if_pos (by unfold Region.wanted; rw [o18_2.2.2])]
  left
  have hR3 : Rel (b0 w) 158 (St.of (v21 p) (m21 p (kind0 p, rest0 p))) β a2 W := hR2.less (fun t d hd => by
    simp only [v21, lookT] at hd
    split at hd
    · rename_i e; obtain rfl := Nat.eq_of_beq_eq_true e; cases hd; exact n1
    · split at hd
      · rename_i e; obtain rfl := Nat.eq_of_beq_eq_true e; cases hd; exact n5
      · split at hd
        · rename_i e; obtain rfl := Nat.eq_of_beq_eq_true e; cases hd; exact n6
        · split at hd
          · rename_i e; obtain rfl := Nat.eq_of_beq_eq_true e; cases hd; exact n8
          · split at hd
            · rename_i e; obtain rfl := Nat.eq_of_beq_eq_true e; cases hd; exact n9
            · cases hd) nm
  obtain ⟨sv, t116, hsv⟩ := hR2.tm 116 _ m116
  have hsv : ExtsAt W (fun b => (∀ n, β n ≠ some b) ∧ (false = true → (b0 w).heap.size ≤ b)) p.exts sv := hsv
  obtain ⟨aa, cap, hslice, him, hrd⟩ := hsv
  have hcall : Calls Try.prog 59 ⟨[sv]⟩ W fun e w' => e = .returned (.func (.func 109) #[] #[.pointer (some ⟨W.heap.size, 0, none⟩)]) ∧ w' = W.alloc (.cells #[sv] 25) := by
    rw [hslice]
    exact callsIn_wide.1 (back_in Fence.wide 3 trivial rfl aa p.exts.length cap W)
  have hev : a2.eval (.tmp 116) = sv := by
    simp only [Act.eval, Array.getD_eq_getD_getElem?, t116, Option.getD_some]
  refine wp_enter o18_2.1 rfl ⟨Try.f59, Try.func59, by kernel_rfl, by kernel_rfl⟩ (by simpa [hev] using hcall) ?_
  rintro e W3 ⟨rfl, rfl⟩
  simp only
  rw [o18_2.2.1]
  have hR4 : Rel (b0 w) 158 (St.of (v21 p) (m21 p (kind0 p, rest0 p))) β (a2.put (some 117) (.func (.func 109) #[] #[.pointer (some ⟨W.heap.size, 0, none⟩)])) (W.alloc (.cells #[sv] 25)) :=
    (hR3.putAny rfl _).below ((Below.refl _ _).alloc (Nat.le_refl _) _)
  generalize ha3 : a2.put (some 117) (.func (.func 109) #[] #[.pointer (some ⟨W.heap.size, 0, none⟩)]) = a3 at hR4 ⊢
  have h117 : a3.eval (.tmp 117) = .func (.func 109) #[] #[.pointer (some ⟨W.heap.size, 0, none⟩)] := by
    subst ha3
    have hsz2 : a2.tmps.size = 158 := hR2.sz
    have : 117 < a2.tmps.size := by omega
    simp [Act.eval, Act.put, Array.getD_eq_getD_getElem?, this]
  have hsz3 := hR4.sz
  have hd3 : a3.defers = [] := hR4.dfr
  obtain ⟨b8, _, _, e8, _⟩ := hR4.mem 8 ⟨[.int .i64 (.sym (kind0 p))], 3⟩ rfl
  obtain ⟨b9, _, _, e9, _⟩ := hR4.mem 9 ⟨[.str (rest0 p)], 9⟩ rfl
  have l8 := (hR3.new 8 b8 e8).2
  have l9 := (hR3.new 9 b9 e9).2
  have hwW : w.heap.size ≤ W.heap.size := hR3.bel.size
  have hBl : (W.alloc (.cells #[sv] 25)).heap.size = W.heap.size + 1 := by simp
  have hI0 : I21 w p a3 b8 b9 (W.alloc (.cells #[sv] 25)).heap.size [] (W.alloc (.cells #[sv] 25)) := by
    refine ⟨β, hR4, e8, e9, fun n b h => ?_, ?_, Nat.le_refl _⟩
    · have := (hR4.new n b h).2; exact this
    · show (rest0 p).length ≤ _
      unfold rest0
      split
      · simp only [lsCat, frag, List.length_append, fPut_len]; omega
      · omega
  have hstops := back_stops Fence.wide 2 trivial rfl (by omega) W.heap.size (Y := Y21 b8 b9 (W.alloc (.cells #[sv] 25)).heap.size) sv p.exts hg (by omega) (W.alloc (.cells #[sv] 25)) ⟨by omega, by omega, by omega⟩ (by omega)
    (by simp only [World.cell?, heap_alloc_new]; rfl)
    ⟨aa, cap, hslice, him, hrd.imp id fun ⟨b, off, f1, f2, f3, f4⟩ => ⟨b, off, f1, by omega, ⟨by omega, fun e => f3.1 8 (by rw [e]; exact e8), fun e => f3.1 9 (by rw [e]; exact e9)⟩, fun i e hi => by
      obtain ⟨g1, g2, g3, g4⟩ := f4 i e hi
      have hb : Below W.heap.size W (W.alloc (.cells #[sv] 25)) := (Below.refl _ _).alloc (Nat.le_refl _) _
      exact ⟨(hb.cell (p := ⟨b, off + i * 2, none⟩) f2).trans g1, g2, (hb.cell (p := ⟨b, off + i * 2 + 1, none⟩) f2).trans g3, g4⟩⟩⟩
  have hW3 : ∃ W3, W.alloc (.cells #[sv] 25) = W3 := ⟨_, rfl⟩
  obtain ⟨W3, hW3⟩ := hW3
  rw [hW3] at hI0 hstops hBl ⊢
  have hwl : w.heap.size ≤ W3.heap.size := by omega
  simp only [wpOps, Exit.then]
  refine wp_block ((wpIn_wide (n := 3)).1 (wpIn_rangeFunc_ownH rfl (by omega) (gf := 109) (lb := #[.pointer (some ⟨W.heap.size, 0, none⟩)]) h117 trivial (enters_of Try.func109 (by kernel_rfl) rfl)
    hstops (fun h k => KpY.trans h k) (fun Wx l o o' hl ho hc hw k hk ob hob hcb => ?_) (Below.refl _ _) (fun _ => rfl)
    (I21 w p a3 b8 b9 W3.heap.size) (fun _ _ _ => False) (I21_own hwl) (fun c s A B row h _ _ => h.elim) hI0 (Ax21 b8 b9 W3.heap.size) (Ax21_own b8 b9 W3.heap.size) ?_ ?_ ?_ ?_))
  · rw [World.putObj_heap_other (by have := hk.1; omega)]; exact hob
  · intro l pre x Wx K hI hK
    have g8 : ∃ β, Rel (b0 w) 158 (St.of (v21 p) (m21 p (st6 p pre))) β a3 Wx ∧ β 8 = some b8 ∧ β 9 = some b9 := by obtain ⟨β, h1, h2, h3, _⟩ := hI; exact ⟨β, h1, h2, h3⟩
    obtain ⟨βx, hx, x8, x9⟩ := g8
    have p8 := slot8 hx x8
    have p9 := slot9 hx x9
    have e0 : (#[118, 119].zip #[Value.int .i64 x.1.1, extV x.1.2]).foldl (fun t (p : Tmp × Value) => t.setIfInBounds p.1 p.2) a3.tmps = (a3.tmps.setIfInBounds 118 (.int .i64 x.1.1)).setIfInBounds 119 (extV x.1.2) := by simp
    rw [e0]
    refine assign21 (a0 := { tmps := (a3.tmps.setIfInBounds 118 (.int .i64 x.1.1)).setIfInBounds 119 (extV x.1.2), defers := [] }) hwl hI (by simpa using hsz3) rfl ?_ ?_ ?_ hK
    · show ((a3.tmps.setIfInBounds 118 (.int .i64 x.1.1)).setIfInBounds 119 (extV x.1.2))[8]? = _
      rw [Array.getElem?_setIfInBounds_ne (by omega), Array.getElem?_setIfInBounds_ne (by omega)]; exact p8
    · show ((a3.tmps.setIfInBounds 118 (.int .i64 x.1.1)).setIfInBounds 119 (extV x.1.2))[9]? = _
      rw [Array.getElem?_setIfInBounds_ne (by omega), Array.getElem?_setIfInBounds_ne (by omega)]; exact p9
    · show ((a3.tmps.setIfInBounds 118 (.int .i64 x.1.1)).setIfInBounds 119 (extV x.1.2))[119]? = _
      simp [hsz3]
  · intro l pre x a' Wx hl hlr hI hax hN
    exact body21 hwl hI hax (by omega)
  · intro D xs Wx hD hS hI hDx
    obtain ⟨βx, hx, x8, x9, hltx, hlen, _⟩ := hI
    subst hS
    rw [hd3]
    exact tail21 hr hp hx (by unfold out6; have := upto_length (backG p.exts hg) p.exts.length; omega) hDx (by omega) (fun n b h => by have := hltx n b h; omega)
  · intro D c pre Wx _ _ h; exact h.elim
end Go.Adit
