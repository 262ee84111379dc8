/- Part of the proofs of the laws: lemmas and contracts, no statement of its own. -/
import Derived.Test.YtledohjnchnmhaaCatch3
import Derived.Test.YtledohjnchnmhaaSum2
set_option linter.unusedVariables false
set_option linter.unusedSimpArgs false
namespace Go.Adit
open Go.RowKit
theorem zeroCells_congr {c c' : Cfg} (h : c'.tys = c.tys) (x s i : Nat) (nv : Bool) : ∀ n t, zeroCells c' x s i nv n t = zeroCells c x s i nv n t := by
  have hty : ∀ t, c'.ty t = c.ty t := fun t => by simp only [Cfg.ty, h]
  intro n
  induction n with
  | zero => intro t; rfl
  | succ n ih =>
    have e : zeroCells c' x s i nv n = zeroCells c x s i nv n := funext ih
    intro t
    unfold zeroCells
    rw [hty t, e]
/-- other checks, the same functions -/
theorem Env.congr {P : Program} {c : Cfg} {z : Zs} (E : Env P c z) (hold pin) : Env P { c with hold := hold, pin := pin } z := by
  have hz : ∀ n t, zeroCells { c with hold := hold, pin := pin } z.ext z.strs z.ints z.nilv n t = zeroCells c z.ext z.strs z.ints z.nilv n t := zeroCells_congr (c := c) (c' := { c with hold := hold, pin := pin }) rfl _ _ _ _
  refine ⟨E.mixed, E.ty, fun t l h => E.zero t l ((hz 20 t).symm.trans h), fun t l h1 h2 => E.eq t l h1 ((hz 20 t).symm.trans h2), E.call, E.callm, E.die, E.diem, E.bts, E.same⟩
end Go.Adit

namespace Go.Adit
def m76 : List SC → List D → Option (D × List SC × List Bool)
  | [.str b, .int .i64 (.lit 0)], [] => some (.agg (encPkt true (r4pkt b)), [.str b, .int .i64 (.lit 20)], [lbLe (liLit 20) (liLen b)])
  | _, _ => none
def d76 : List SC → List D → Option (BV × Int)
  | [.str b, .int .i64 (.lit 0)], [] => some (.sym (r4dies b), r4code b)
  | _, _ => none
def e76 : Entry := ⟨76, some 2, noCall, m76, d76⟩
end Go.Adit

namespace Go.Adit
open Go.RowKit Go.Proofs
set_option maxRecDepth 100000
set_option maxHeartbeats 4000000
theorem ok76 : EntryOK Try.prog e76 := by
  constructor
  · intro args r req h1; cases h1
  · intro cells args r cells' req h1 h2 h3 h4
    simp only [e76] at h2 h3
    unfold m76 at h3
    split at h3
    · rename_i b
      simp only [Option.some.injEq, Prod.mk.injEq] at h3
      obtain ⟨rfl, rfl, rfl⟩ := h3
      have hl : 20 ≤ b.length := by
        have := h4 _ (.head _)
        rw [lbLe_t] at this
        have : (20 : Int) ≤ (b.length : Int) := this
        omega
      have hd := h2 (.sym (r4dies b)) (r4code b) rfl
      have hd' : r4dies b = false := hd
      refine con76 b hl ?_
      unfold r4dies at hd'
      simp only [hl, decide_true, Bool.true_and] at hd'
      cases e : r4err b with
      | none => rfl
      | some x => rw [e] at hd'; cases hd'
    · cases h3
  · intro args b n h1; cases h1
  · intro cells args bv n h1 h2 h3
    simp only [e76] at h2
    unfold d76 at h2
    split at h2
    · rename_i b
      simp only [Option.some.injEq, Prod.mk.injEq] at h2
      obtain ⟨rfl, rfl⟩ := h2
      have h3' : r4dies b = true := h3
      unfold r4dies at h3'
      simp only [Bool.and_eq_true, decide_eq_true_eq] at h3'
      obtain ⟨hl, hs⟩ := h3'
      obtain ⟨e, he⟩ := Option.isSome_iff_exists.1 hs
      have : r4code b = e := by simp [r4code, he]
      rw [this]
      exact die76 b hl e he
    · cases h2

end Go.Adit

namespace Go.Adit
open Go.RowKit Go.Proofs
set_option maxRecDepth 100000
set_option maxHeartbeats 4000000
def pin29 (t : Nat) : Bool := Nat.beq t 2 || Nat.beq t 3
def hold29' (s : St) : Bool :=
  match s.t 2, s.t 3 with
  | some (.s (.ptr a 0)), some (.s (.ptr b 0)) => (Nat.beq a 1000000 && Nat.beq b 1000001) && hold29 s
  | _, _ => false
def cfg29' (es : List Entry) : Cfg := { mkCfg tys eqTys es 37 noKeep with hold := hold29', pin := pin29 }
theorem env29 {es : List Entry} (h : ∀ e ∈ es, EntryOK Try.prog e) : Env Try.prog (cfg29' es) zs :=
  (envOf tryBase h 37 noKeep).congr hold29' pin29

def zc27 : List Value := [.bool false, .int .u8 0, .int .u8 0, .int .u8 0, .int .u8 0, .int .u8 0, .int .u8 0, .int .u8 0, .int .u8 0, .int .u8 0, .int .u8 0, .int .u8 0, .int .u8 0, .int .u8 0, .int .u8 0, .int .u8 0, .int .u8 0, .bool false, .int .u8 0, .int .u8 0, .int .u8 0, .int .u8 0, .int .u8 0, .int .u8 0, .int .u8 0, .int .u8 0, .int .u8 0, .int .u8 0, .int .u8 0, .int .u8 0, .int .u8 0, .int .u8 0, .int .u8 0, .int .u8 0, .int .i64 0, .int .i64 0, .int .i64 0, .int .i64 0, .int .i64 0, .bool false, .bool false, .string ⟨#[]⟩, .int .i64 0, .slice none 0 0, .bool false, .string ⟨#[]⟩]
def w29 (w : World) : World := (w.alloc (.cells ⟨zc27⟩ 27)).alloc (.cells #[.int .i64 0] 31)
def d29 (N : Nat) : Deferred := { target := .fn (.func 74) #[.pointer (some ⟨N, 0, none⟩), .pointer (some ⟨N + 1, 0, none⟩)], args := #[] }
def a29 (b : List UInt8) (N : Nat) : Act := { tmps := ⟨[.string ⟨⟨b⟩⟩, undef, .pointer (some ⟨N, 0, none⟩), .pointer (some ⟨N + 1, 0, none⟩), undef, undef, .func (.func 74) #[] #[.pointer (some ⟨N, 0, none⟩), .pointer (some ⟨N + 1, 0, none⟩)]] ++ List.replicate 30 undef⟩, defers := [d29 N] }
def β29 (N : Nat) : Nat → Option Nat := updB (updB (fun _ => none) 1000000 N) 1000001 (N + 1)

end Go.Adit

namespace Go.Adit
open Go.RowKit Go.Proofs
set_option maxRecDepth 100000
set_option maxHeartbeats 4000000
theorem act_eq {Q' : Exit → Act → World → Prop} {t1 t2 : Array Value} {d : List Deferred} {w1 w2 : World} (h : Q' .normal { tmps := t2, defers := d } w2) (h1 : t1 = t2) (h2 : w1 = w2) : Q' .normal { tmps := t1, defers := d } w1 := by
  subst h1 h2; exact h
theorem enter29 (b : List UInt8) (w : World) (R : Ending → World → Prop) (h : (restOf (bodyOf Try.f29)).wp Try.prog (bodyPostD Try.prog Try.f29 R) (a29 b w.heap.size) (w29 w)) : Calls Try.prog 29 #[.string ⟨⟨b⟩⟩] w R := by
  refine calls_of_wp_defers Try.func29 rfl ?_
  simp only [Try.ntmps29]
  refine seq_gen { tmps := ⟨[.string ⟨⟨b⟩⟩, undef, .pointer (some ⟨w.heap.size, 0, none⟩), .pointer (some ⟨w.heap.size + 1, 0, none⟩)] ++ List.replicate 33 undef⟩, defers := [] } (w29 w) (fun Q' hQ' => ?_) ?_
  · clear h
    go_wp2
    exact act_eq hQ' (by kernel_rfl) (by kernel_rfl)
  refine seq_gen (a29 b w.heap.size) (w29 w) (fun Q' hQ' => ?_) h
  · clear h
    have hmf : ∀ (fn : Go.Fn) (first cap : Array Value) (w : World), (Instr.makeFunc fn first cap).run Try.prog w = .ok (.func fn first cap) w := fun _ _ _ _ => rfl
    unfold a29 at hQ'
    go_wp2
    exact act_eq hQ' (by kernel_rfl) (by kernel_rfl)

end Go.Adit

namespace Go.Adit
open Go.RowKit Go.Proofs
set_option maxRecDepth 100000
set_option maxHeartbeats 4000000
theorem z27_rep (β : Nat → Option Nat) (own : Nat → Prop) (w : World) : RepL β own w z27 zc27 := by
  simp [RepL, RepS, z27, zc27, lsLit, lxNil, ExtsAt, imax, IV.li, BV.lb, liLit, lbLit, inR, IntKind.min, IntKind.max, IntKind.signed, IntKind.bits]

end Go.Adit

namespace Go.Adit
open Go.RowKit Go.Proofs
set_option maxRecDepth 100000
set_option maxHeartbeats 4000000
theorem rel29 (b : List UInt8) (hb : (b.length : Int) ≤ imax) (w : World) : Rel ⟨w, fun _ => False, [d29 w.heap.size], pinB w.heap.size⟩ 37 (St.of (v29 b) m29) (β29 w.heap.size) (a29 b w.heap.size) (w29 w) := by
  have h0 : (w29 w).heap[w.heap.size]? = some (.cells ⟨zc27⟩ 27 (0, 0)) := by
    unfold w29
    rw [Below.heap_alloc _ _ _ (by simp)]
    exact heap_alloc_new _ _
  have h1 : (w29 w).heap[w.heap.size + 1]? = some (.cells ⟨[.int .i64 0]⟩ 31 (0, 0)) := by
    unfold w29
    have := heap_alloc_new (w.alloc (.cells ⟨zc27⟩ 27)) (.cells #[.int .i64 0] 31)
    simpa using this
  have e0 : β29 w.heap.size 1000000 = some w.heap.size := by simp [β29, updB]
  have e1 : β29 w.heap.size 1000001 = some (w.heap.size + 1) := by simp [β29, updB]
  have hβ : ∀ n x, β29 w.heap.size n = some x → (n = 1000000 ∧ x = w.heap.size) ∨ (n = 1000001 ∧ x = w.heap.size + 1) := by
    intro n x h
    unfold β29 updB at h
    split at h
    · rename_i e; exact .inr ⟨e, by simpa using h.symm⟩
    · split at h
      · rename_i e; exact .inl ⟨e, by simpa using h.symm⟩
      · cases h
  refine ⟨rfl, fun t d ht => ?_, fun n blk hn => ?_, fun n hh hn => ?_, fun n hh => ?_, fun n n' x h h' => ?_, fun n x h => ?_, ?_, rfl, fun n x hn hx b' h => ?_⟩
  · have ht : lookT (v29 b) t = some d := ht
    simp only [v29, lookT] at ht
    split at ht
    · rename_i e; obtain rfl := Nat.eq_of_beq_eq_true e; cases ht; exact ⟨_, rfl, rfl, hb⟩
    · split at ht
      · rename_i e; obtain rfl := Nat.eq_of_beq_eq_true e; cases ht; exact ⟨_, rfl, _, e0, rfl⟩
      · split at ht
        · rename_i e; obtain rfl := Nat.eq_of_beq_eq_true e; cases ht; exact ⟨_, rfl, _, e1, rfl⟩
        · cases ht
  · have hn : lookM m29 n = some blk := hn
    simp only [m29, lookM] at hn
    split at hn
    · rename_i e; obtain rfl := Nat.eq_of_beq_eq_true e; cases hn; exact ⟨_, _, _, e0, h0, z27_rep _ _ _, rfl⟩
    · split at hn
      · rename_i e; obtain rfl := Nat.eq_of_beq_eq_true e; cases hn; exact ⟨_, _, _, e1, h1, ⟨⟨rfl, by simp [inR, IntKind.min, IntKind.max, IntKind.signed, IntKind.bits, IV.li, liLit]⟩, trivial⟩, rfl⟩
      · cases hn
  · have hn : lookM m29 n = none := hn
    simp only [m29, lookM] at hn
    split at hn
    · cases hn
    · rename_i e
      split at hn
      · cases hn
      · rename_i e'
        unfold β29 updB
        rw [if_neg (fun h => by rw [h] at e'; cases e'), if_neg (fun h => by rw [h] at e; cases e)]
  · show lookM m29 n = none
    simp only [m29, lookM]
    split
    · rename_i e; obtain rfl := Nat.eq_of_beq_eq_true e; exact absurd hh (by decide)
    · split
      · rename_i e; obtain rfl := Nat.eq_of_beq_eq_true e; exact absurd hh (by decide)
      · rfl
  · rcases hβ n x h with ⟨r1, r2⟩ | ⟨r1, r2⟩ <;> rcases hβ n' x h' with ⟨r3, r4⟩ | ⟨r3, r4⟩ <;> omega
  · rcases hβ n x h with ⟨r1, r2⟩ | ⟨r1, r2⟩
    · exact ⟨.inl (by show w.heap.size ≤ _; omega), by simp [w29]; omega⟩
    · exact ⟨.inl (by show w.heap.size ≤ _; omega), by simp [w29]; omega⟩
  · refine Kept.trans (w := w) Kept.refl ?_
    unfold w29
    exact ((Below.refl _ _).alloc (Nat.le_refl _) _).alloc (by simp) _
  · simp only [pinB, lentName, Option.some.injEq] at hx
    rcases hβ _ b' h with ⟨r1, r2⟩ | ⟨r1, r2⟩ <;> omega

end Go.Adit

namespace Go.Adit
open Go.RowKit Go.Proofs
set_option maxRecDepth 100000
set_option maxHeartbeats 4000000
/-- the results, read by the frame's own slots -/
theorem res29 {w0 : Base} {s : St} {β : Nat → Option Nat} {a : Act} {w : World} {es : List Entry} (h : ∀ e ∈ es, EntryOK Try.prog e) {N : Nat} (hR : Rel w0 N s β a w) {M : Nat} (hlb : w0.lb = pinB M) {tmps : Array Value} {n : Int} {t2 t3 : Nat} (hsz : tmps.size = 37)
    (p2 : tmps[2]? = some (.pointer (some ⟨M, 0, none⟩))) (p3 : tmps[3]? = some (.pointer (some ⟨M + 1, 0, none⟩))) (h2 : s.m 1000000 = some ⟨z27, t2⟩) (h3 : s.m 1000001 = some ⟨[.int .i64 (.sym n)], t3⟩) :
    ∃ v, (results Try.f29 tmps).run Try.prog w = .ok v w ∧ RepD (visB β) (fun b => w0.heap.size ≤ b) w (.tup [.agg z27, .s (.int .i64 (.sym n))]) v := by
  obtain ⟨b2, _, _, e2, _⟩ := hR.mem _ _ h2
  obtain ⟨b3, _, _, e3, _⟩ := hR.mem _ _ h3
  have g2 : b2 = M := hR.lnt 1000000 M (by decide) (by rw [hlb]; rfl) b2 e2
  have g3 : b3 = M + 1 := hR.lnt 1000001 (M + 1) (by decide) (by rw [hlb]; rfl) b3 e3
  subst g2 g3
  have hR2 := hR.frame (a' := { tmps := tmps, defers := [] }) (t' := lookT [(2, .s (.ptr 1000000 0)), (3, .s (.ptr 1000001 0))]) (N' := 37) (dl := []) hsz (fun t d ht => by
    simp only [lookT] at ht
    split at ht
    · rename_i e; obtain rfl := Nat.eq_of_beq_eq_true e; cases ht; exact ⟨_, p2, _, e2, rfl⟩
    · split at ht
      · rename_i e; obtain rfl := Nat.eq_of_beq_eq_true e; cases ht; exact ⟨_, p3, _, e3, rfl⟩
      · cases ht) rfl
  have hf : (finish (cfg29' es) Try.f29.results.toList ⟨lookT [(2, .s (.ptr 1000000 0)), (3, .s (.ptr 1000001 0))], s.m⟩).holds (fun d _ => d = .tup [.agg z27, .s (.int .i64 (.sym n))]) (fun _ => False) (fun _ _ _ => False) := by
    have e : finish (cfg29' es) Try.f29.results.toList ⟨lookT [(2, .s (.ptr 1000000 0)), (3, .s (.ptr 1000001 0))], s.m⟩ = .ret (.tup [.agg z27, .s (.int .i64 (.sym n))]) z27 := by
      simp only [finish, Try.results29, ressOf, resOf, lookT, h2, h3, lentName]
      rfl
    rw [e]; rfl
  obtain ⟨v, d, l, q1, q2, q3, q4, _⟩ := finish_ok (env29 h) hR2 hf
  subst q4
  exact ⟨v, q1, q2⟩

end Go.Adit

namespace Go.Adit
open Go.RowKit Go.Proofs
set_option maxRecDepth 100000
set_option maxHeartbeats 4000000
theorem con29_of {es : List Entry} (h : ∀ e ∈ es, EntryOK Try.prog e) (hlent : ∀ f k, eLent es f = some k → k = 2) (hok : regsOk (cfg29' es) (restOf (bodyOf Try.f29)) = true) (b : List UInt8) {p : Packet} {e : Int}
    {t : Tr} (ht : sym (cfg29' es) zs Try.f29.results.toList 5000 [.code 0 (restOf (bodyOf Try.f29))] (St.of (v29 b) m29) = t)
    (hh : t.holds (fun d _ => d.norm = (D.tup [.agg (encPkt true p), .s (.int .i64 (.sym e))]).norm) (fun n => inR .i64 n ∧ (D.tup [.agg z27, .s (.int .i64 (.sym n))]).norm = (D.tup [.agg (encPkt true p), .s (.int .i64 (.sym e))]).norm) (fun _ _ _ => False)) :
    Con Try.prog 29 [.s (.str b)] (.tup [.agg (encPkt true p), .s (.int .i64 (.sym e))]) := by
  refine ⟨⟨_, Try.func29, by kernel_rfl, by kernel_rfl⟩, fun w vs hv => ?_⟩
  match vs, hv with
  | [v], ⟨hv0, _⟩ =>
  obtain ⟨rfl, hb⟩ : v = .string ⟨⟨b⟩⟩ ∧ (b.length : Int) ≤ imax := hv0
  refine enter29 b w _ ?_
  have E := env29 h
  refine tree_wp (w0 := ⟨w, fun _ => False, [d29 w.heap.size], pinB w.heap.size⟩) (s := St.of (v29 b) m29) (rs := Try.f29.results.toList) E (zeroFlat E) (body := restOf (bodyOf Try.f29)) hok rfl (fun A s β a w' h1 hR => ?_) (fun n s s1 β a w1 w' hn hhold hg hR hl => ?_) (γ := fun _ => Empty) (fun _ g => g.elim) (fun _ g => g.elim) 5000 (by rw [ht]; exact holds_flat hh) (fun i g => g.elim) (rel29 b hb w)
  · obtain ⟨v, d, l, g1, g2, g3, g4, _⟩ := finish_ok E hR h1
    have hd : a.defers = [d29 w.heap.size] := hR.dfr
    have key : Leaves Try.prog Try.f29 a.tmps (fun e_1 w' => ∃ u, e_1 = .returned u ∧ RepD (fun _ => none) (fun b => w.heap.size ≤ b) w' (.tup [.agg (encPkt true p), .s (.int .i64 (.sym e))]) u ∧ Below w.heap.size w w') a.defers .returning w' := by
      rw [hd]
      refine leaves_cons (f := 74) (args := #[.pointer (some ⟨w.heap.size, 0, none⟩), .pointer (some ⟨w.heap.size + 1, 0, none⟩)]) (by simp) (by simp [go_sem]) ?_
      refine (idle74 _ _ w').mono ?_
      rintro e' u' w'' ⟨rfl, rfl, rfl⟩
      exact ⟨v, g1, v, rfl, repD_eq g4 (g2.clean g3), ⟨hR.bel.os, hR.bel.tape, hR.bel.output, hR.bel.size, fun k hk => hR.bel.block k hk (fun h => h)⟩⟩
    exact ⟨key, key⟩
  · have hd : a.defers = [d29 w.heap.size] := by obtain ⟨_, _, hr, _⟩ := hl.ex; exact hr.dfr
    show Leaves Try.prog Try.f29 a.tmps _ a.defers (.panicking (errChain n)) w'
    rw [hd]
    refine leaves_cons (f := 74) (args := #[.pointer (some ⟨w.heap.size, 0, none⟩), .pointer (some ⟨w.heap.size + 1, 0, none⟩)]) (by simp) (by simp [go_sem]) ?_
    have hhold : hold29' s = true := hhold
    unfold hold29' at hhold
    split at hhold
    · rename_i k2 k3 t2 t3
      simp only [Bool.and_eq_true] at hhold
      obtain ⟨⟨r2, r3⟩, hh29⟩ := hhold
      obtain rfl := Nat.eq_of_beq_eq_true r2
      obtain rfl := Nat.eq_of_beq_eq_true r3
      unfold hold29 at hh29
      split at hh29
      · rename_i bk2 bk3 m2 m3
        simp only [Bool.and_eq_true] at hh29
        have l2 := Nat.eq_of_beq_eq_true hh29.1
        have l3 := Nat.eq_of_beq_eq_true hh29.2
        obtain ⟨bk2', m2', l2'⟩ := hg.1 _ _ m2
        obtain ⟨bk3', m3', l3'⟩ := hg.1 _ _ m3
        have t2' := (hg.2 2 rfl (by rw [t2]; intro x n e hn; cases e; first | rfl | (show Nat.beq _ n = false; rw [Bool.eq_false_iff]; intro e; obtain rfl := Nat.eq_of_beq_eq_true e; cases hn))).trans t2
        have t3' := (hg.2 3 rfl (by rw [t3]; intro x n e hn; cases e; first | rfl | (show Nat.beq _ n = false; rw [Bool.eq_false_iff]; intro e; obtain rfl := Nat.eq_of_beq_eq_true e; cases hn))).trans t3
        obtain ⟨s2, β2, hR2, hk⟩ := hl.ex
        have n2 : s2.m 1000000 = some bk2' := by
          rcases hk _ _ m2' with hh | ⟨f, hf⟩
          · exact hh.1
          · have := hlent f _ hf; omega
        have n3 : s2.m 1000001 = some bk3' := by
          rcases hk _ _ m3' with hh | ⟨f, hf⟩
          · exact hh.1
          · have := hlent f _ hf; omega
        refine (catch74 hR2 rfl n2 n3 (by omega) (by omega) n hn.1).mono ?_
        rintro e' u' w'' ⟨rfl, rfl, s', β', a', hR', q2, q3⟩
        obtain ⟨v2, x2, y2⟩ := hR.tm 2 _ t2'
        obtain ⟨v3, x3, y3⟩ := hR.tm 3 _ t3'
        obtain ⟨b2, z2, rfl⟩ := y2
        obtain ⟨b3, z3, rfl⟩ := y3
        have e2 : b2 = w.heap.size := hR.lnt 1000000 _ (by decide) rfl b2 z2
        have e3 : b3 = w.heap.size + 1 := hR.lnt 1000001 _ (by decide) rfl b3 z3
        subst e2 e3
        obtain ⟨v, g1, g2⟩ := res29 h hR' (M := w.heap.size) rfl hR.sz x2 x3 q2 q3
        refine ⟨v, g1, v, rfl, repD_eq hn.2 (g2.clean rfl), ⟨hR'.bel.os, hR'.bel.tape, hR'.bel.output, hR'.bel.size, fun k hk => hR'.bel.block k hk (fun h => h)⟩⟩
      · cases hh29
    · cases hhold
end Go.Adit
