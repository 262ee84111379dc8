/- Part of the proofs of the laws: lemmas and contracts, no statement of its own. -/
import Derived.Test.YtledohjnchnmhaaTryB
set_option linter.unusedVariables false
set_option linter.unusedSimpArgs false
namespace Go.Adit
theorem lbLe_t {a b : Int} : (lbLe a b = true) = (a ≤ b) := by simp [lbLe]
theorem lbLe_f {a b : Int} : (lbLe a b = false) = (b < a) := by simp [lbLe]
theorem lbLt_t {a b : Int} : (lbLt a b = true) = (a < b) := by simp [lbLt]
theorem lbLt_f {a b : Int} : (lbLt a b = false) = (b ≤ a) := by simp [lbLt]
theorem lbEqI_t {a b : Int} : (lbEqI a b = true) = (a = b) := by simp [lbEqI]
theorem lbEqI_f {a b : Int} : (lbEqI a b = false) = (a ≠ b) := by simp [lbEqI]
theorem lbEqS_t {a b : List UInt8} : (lbEqS a b = true) = (a = b) := by simp [lbEqS]
theorem lbEqS_f {a b : List UInt8} : (lbEqS a b = false) = (a ≠ b) := by simp [lbEqS]
theorem lbEqB_t {a b : Bool} : (lbEqB a b = true) = (a = b) := by simp [lbEqB]
theorem lbEqB_f {a b : Bool} : (lbEqB a b = false) = (a ≠ b) := by cases a <;> cases b <;> simp [lbEqB]
theorem lbNot_t {a : Bool} : (lbNot a = true) = (a = false) := by simp [lbNot]
theorem lbNot_f {a : Bool} : (lbNot a = false) = (a = true) := by simp [lbNot]
theorem lbAnd_t {a b : Bool} : (lbAnd a b = true) = (a = true ∧ b = true) := by simp [lbAnd]
theorem lbAnd_f {a b : Bool} : (lbAnd a b = false) = (a = false ∨ b = false) := by cases a <;> cases b <;> simp [lbAnd]
theorem lbRoom_t {a b : List UInt8} : (lbRoom a b = true) = ((a.length : Int) + b.length ≤ 9223372036854775807) := by simp [lbRoom]
theorem and_t {a b : Bool} : ((a && b) = true) = (a = true ∧ b = true) := by simp
theorem and_f {a b : Bool} : ((a && b) = false) = (a = false ∨ b = false) := by cases a <;> cases b <;> simp
theorem not_t {a : Bool} : ((!a) = true) = (a = false) := by simp
theorem not_f {a : Bool} : ((!a) = false) = (a = true) := by simp
theorem wi64 {n : Int} (h1 : -9223372036854775808 ≤ n) (h2 : n ≤ 9223372036854775807) : IntKind.i64.wrap n = n := by rw [IntKind.wrap_i64]; omega
theorem wu64 {n : Int} (h1 : 0 ≤ n) (h2 : n ≤ 18446744073709551615) : IntKind.u64.wrap n = n := by rw [IntKind.wrap_u64]; omega
theorem add64 {a b : Int} (h1 : -9223372036854775808 ≤ a + b) (h2 : a + b ≤ 9223372036854775807) : liAdd .i64 a b = a + b := wi64 h1 h2
theorem sub64 {a b : Int} (h1 : -9223372036854775808 ≤ a - b) (h2 : a - b ≤ 9223372036854775807) : liSub .i64 a b = a - b := wi64 h1 h2
theorem liLen_eq {s : List UInt8} : liLen s = (s.length : Int) := rfl
theorem liLit_eq {n : Int} : liLit n = n := rfl
/-- two answers that are one number, one Bool -/
theorem sI_norm {a b : Int} (h : a = b) : (D.s (.int .i64 (.sym a))).norm = (D.s (.int .i64 (.sym b))).norm := by rw [h]
end Go.Adit
namespace Go.Adit
theorem eqByte (x : UInt8) (n : Int) (y : UInt8) (h : n = (y.toNat : Int)) : lbEqI (liOfByte x) n = (x == y) := by
  subst h
  simp only [lbEqI, liOfByte]
  rw [Bool.eq_iff_iff]
  simp [← UInt8.toNat_inj]
  omega
theorem eqByte0 (x : UInt8) : lbEqI (liOfByte x) (liLit 0) = (x == 0) := eqByte x _ 0 rfl
theorem eqByte255 (x : UInt8) : lbEqI (liOfByte x) (liLit 255) = (x == 255) := eqByte x _ 255 rfl
end Go.Adit
namespace Go.Adit
theorem fromByte (s : List UInt8) (i : Int) (h : 0 ≤ i) : lyIf (lbLt (liLit i) (liLen s)) (lsAt s (liLit i)) (lyOfInt (liLit 0)) = s.getD i.toNat 0 := by
  unfold lyIf
  split
  · rfl
  · rename_i hn
    have : ¬ i < (s.length : Int) := by
      intro h'
      exact hn (by rw [lbLt_t]; exact h')
    rw [List.getD_eq_getElem?_getD, List.getElem?_eq_none (by omega)]
    rfl
theorem lenIs {s : List UInt8} {n : Nat} : (lbEqI (liLen s) (liLit n) = true) = (s.length = n) := by
  rw [lbEqI_t]; simp only [liLen, liLit]; apply propext; omega
theorem lenIsnt {s : List UInt8} {n : Nat} : (lbEqI (liLen s) (liLit n) = false) = (s.length ≠ n) := by
  rw [lbEqI_f]; simp only [liLen, liLit]; apply propext; omega
end Go.Adit

/- What the functions compute, in plain Lean. -/
namespace Go.Adit
def fUpto (n m : Int) : Bool := decide (0 ≤ n) && decide (n ≤ m)
def fSpecial (n : Int) : Bool := n == 0 || n == 43 || n == 44 || n == 60
def fFlag (b : Bool) (n : Int) : Int := if b then n else 0
def fV4 (a b c d : UInt8) : Addr := ⟨false, a, b, c, d, 0, 0, 0, 0, 0, 0, 0, 0, 0, 0, 0, 0⟩
def fValid (a : Addr) : Bool := a.v6 || (a.b4 == 0 && a.b5 == 0 && a.b6 == 0 && a.b7 == 0 && a.b8 == 0 && a.b9 == 0 && a.b10 == 0 && a.b11 == 0 && a.b12 == 0 && a.b13 == 0 && a.b14 == 0 && a.b15 == 0)
end Go.Adit
namespace Go.Adit
/-- what a reader takes -/
def fTake (b : (List UInt8)) (a n : Int) : (List UInt8) := lsSub b a (a + n)
def fAdv (a n : Int) : Int := a + n
def fLeft (b : (List UInt8)) (a : Int) : Int := liLen b - a
def fFits (b : (List UInt8)) (a : Int) : Bool := lbLe 0 a && lbLe a (liLen b)
def fShortBy (b : (List UInt8)) (a n : Int) : Bool := fFits b a && !(lbLe 0 n && lbLe n (fLeft b a))
end Go.Adit
namespace Go.Adit
def fBytes (a : Addr) : (List UInt8) := if a.v6 then [a.b0, a.b1, a.b2, a.b3, a.b4, a.b5, a.b6, a.b7, a.b8, a.b9, a.b10, a.b11, a.b12, a.b13, a.b14, a.b15] else if fValid a then [a.b0, a.b1, a.b2, a.b3] else []
def fNone (a : Addr) : Bool := a.b0 == 0 && a.b1 == 0 && a.b2 == 0 && a.b3 == 0 && a.b4 == 0 && a.b5 == 0 && a.b6 == 0 && a.b7 == 0 && a.b8 == 0 && a.b9 == 0 && a.b10 == 0 && a.b11 == 0 && a.b12 == 0 && a.b13 == 0 && a.b14 == 0 && a.b15 == 0
def fGroup (a : Addr) : Bool := if a.v6 then a.b0 == 255 else fValid a && lbLe (liLit 224) (liOfByte a.b0)
def fProto (b : Bool) : Int := if b then 58 else 1
end Go.Adit
namespace Go.Adit
def zAddr : Addr := ⟨false, 0, 0, 0, 0, 0, 0, 0, 0, 0, 0, 0, 0, 0, 0, 0, 0⟩
def fFrom (s : (List UInt8)) : Addr × Int :=
  if s.length = 4 ∨ s.length = 16 then (⟨lbEqI (liLen s) (liLit 16), s.getD 0 0, s.getD 1 0, s.getD 2 0, s.getD 3 0, s.getD 4 0, s.getD 5 0, s.getD 6 0, s.getD 7 0, s.getD 8 0, s.getD 9 0, s.getD 10 0, s.getD 11 0, s.getD 12 0, s.getD 13 0, s.getD 14 0, s.getD 15 0⟩, 0)
  else (zAddr, 1)
end Go.Adit
namespace Go.Adit
def fSmall : Packet := ⟨fV4 10 0 0 1, fV4 10 0 0 2, 17, 64, 0, 1, 0, false, false, [], 0, [], false, [104, 105]⟩
end Go.Adit

namespace Go.Adit
def c105 : List D → Option (D × List Bool)
  | [.s x0, .s x1, .s x2, .s x3] => (match asY x0 with | some y0 => (match asY x1 with | some y1 => (match asY x2 with | some y2 => (match asY x3 with | some y3 => some (.agg (encAddr ((fV4 (y0) (y1) (y2) (y3)))), []) | none => none) | none => none) | none => none) | none => none)
  | _ => none
def e105 : Entry := ⟨105, none, c105, noCallm, noDie⟩

def c44 : List D → Option (D × List Bool)
  | [.agg x0] => (match decAddr x0 with | some y0 => some (.s (.bool (.sym ((fValid (y0))))), []) | none => none)
  | _ => none
def e44 : Entry := ⟨44, none, c44, noCallm, noDie⟩

def c63 : List D → Option (D × List Bool)
  | [.s (.int .i64 x0), .s (.int .i64 x1)] => some (.s (.bool (.sym ((fUpto (x0.li) (x1.li))))), [])
  | _ => none
def e63 : Entry := ⟨63, none, c63, noCallm, noDie⟩

def c64 : List D → Option (D × List Bool)
  | [.s (.int .i64 x0)] => some (.s (.bool (.sym ((fSpecial (x0.li))))), [])
  | _ => none
def e64 : Entry := ⟨64, none, c64, noCallm, noDie⟩

def c57 : List D → Option (D × List Bool)
  | [.s (.bool x0), .s (.int .i64 x1)] => some (.s (.int .i64 (.sym ((fFlag (x0.lb) (x1.li))))), [])
  | _ => none
def e57 : Entry := ⟨57, none, c57, noCallm, noDie⟩

def c55 : List D → Option (D × List Bool)
  | [.agg x0] => (match decAddr x0 with | some y0 => some (.s (.str ((fBytes (y0)))), []) | none => none)
  | _ => none
def e55 : Entry := ⟨55, none, c55, noCallm, noDie⟩

def c65 : List D → Option (D × List Bool)
  | [.agg x0] => (match decAddr x0 with | some y0 => some (.s (.bool (.sym ((fValid (y0))))), []) | none => none)
  | _ => none
def e65 : Entry := ⟨65, none, c65, noCallm, noDie⟩

def c123 : List D → Option (D × List Bool)
  | [.agg x0] => (match decAddr x0 with | some y0 => some (.s (.bool (.sym ((fNone (y0))))), []) | none => none)
  | _ => none
def e123 : Entry := ⟨123, none, c123, noCallm, noDie⟩

def c124 : List D → Option (D × List Bool)
  | [.agg x0] => (match decAddr x0 with | some y0 => some (.s (.bool (.sym ((fNone (y0))))), []) | none => none)
  | _ => none
def e124 : Entry := ⟨124, none, c124, noCallm, noDie⟩

def c95 : List D → Option (D × List Bool)
  | [.agg x0] => (match decAddr x0 with | some y0 => some (.s (.bool (.sym ((fGroup (y0))))), []) | none => none)
  | _ => none
def e95 : Entry := ⟨95, none, c95, noCallm, noDie⟩

def c99 : List D → Option (D × List Bool)
  | [.agg x0] => (match decAddr x0 with | some y0 => some (.s (.bool (.sym ((fGroup (y0))))), []) | none => none)
  | _ => none
def e99 : Entry := ⟨99, none, c99, noCallm, noDie⟩

def c66 : List D → Option (D × List Bool)
  | [.s (.int .i64 x0), .s (.int .i64 x1)] => some (.s (.bool (.sym ((fUpto (x0.li) (x1.li))))), [])
  | _ => none
def e66 : Entry := ⟨66, none, c66, noCallm, noDie⟩

def c68 : List D → Option (D × List Bool)
  | [.s (.int .i64 x0)] => some (.s (.bool (.sym ((fSpecial (x0.li))))), [])
  | _ => none
def e68 : Entry := ⟨68, none, c68, noCallm, noDie⟩

def c96 : List D → Option (D × List Bool)
  | [.s (.bool x0)] => some (.s (.int .i64 (.sym ((fProto (x0.lb))))), [])
  | _ => none
def e96 : Entry := ⟨96, none, c96, noCallm, noDie⟩

def c100 : List D → Option (D × List Bool)
  | [.s (.bool x0)] => some (.s (.int .i64 (.sym ((fProto (x0.lb))))), [])
  | _ => none
def e100 : Entry := ⟨100, none, c100, noCallm, noDie⟩

def c108 : List D → Option (D × List Bool)
  | [.s (.str x0)] => some (.tup [.agg (encAddr ((fFrom (x0)).1)), .s (.int .i64 (.sym ((fFrom (x0)).2)))], [])
  | _ => none
def e108 : Entry := ⟨108, none, c108, noCallm, noDie⟩

def c53 : List D → Option (D × List Bool)
  | [] => some (.agg (encPkt true ((fSmall))), [])
  | _ => none
def e53 : Entry := ⟨53, none, c53, noCallm, noDie⟩

end Go.Adit

namespace Go.Adit
open Go.RowKit
def Con105 : Prop := ∀ (a0 : UInt8) (a1 : UInt8) (a2 : UInt8) (a3 : UInt8), Con Go.Proofs.Try.prog 105 [.s (.byte a0), .s (.byte a1), .s (.byte a2), .s (.byte a3)] (.agg (encAddr ((fV4 a0 a1 a2 a3))))

theorem ok105 (h : Con105) : EntryOK Go.Proofs.Try.prog e105 := by
  refine EntryOK.pure fun args r req hc hq => ?_
  unfold c105 at hc
  split at hc
  · rename_i x0 x1 x2 x3
    split at hc
    · rename_i y0 hy0
      split at hc
      · rename_i y1 hy1
        split at hc
        · rename_i y2 hy2
          split at hc
          · rename_i y3 hy3
            simp only [Option.some.injEq, Prod.mk.injEq] at hc
            obtain ⟨rfl, rfl⟩ := hc
            exact Con.args (h (y0) (y1) (y2) (y3)) fun w vs hv => (match vs, hv with
              | [_, _, _, _], ⟨h0, h1, h2, h3, _⟩ => ⟨(asY_rep hy0 h0), (asY_rep hy1 h1), (asY_rep hy2 h2), (asY_rep hy3 h3), trivial⟩)
          · cases hc
        · cases hc
      · cases hc
    · cases hc
  · cases hc

def Con44 : Prop := ∀ (a0 : Addr), Con Go.Proofs.Try.prog 44 [.agg (encAddr a0)] (.s (.bool (.sym ((fValid a0)))))

theorem ok44 (h : Con44) : EntryOK Go.Proofs.Try.prog e44 := by
  refine EntryOK.pure fun args r req hc hq => ?_
  unfold c44 at hc
  split at hc
  · rename_i x0
    split at hc
    · rename_i y0 hy0
      simp only [Option.some.injEq, Prod.mk.injEq] at hc
      obtain ⟨rfl, rfl⟩ := hc
      exact Con.args (h (y0)) fun w vs hv => (match vs, hv with
        | [_], ⟨h0, _⟩ => ⟨(let ⟨cs, e1, e2⟩ := h0; ⟨cs, e1, decAddr_rep hy0 e2⟩), trivial⟩)
    · cases hc
  · cases hc

def Con63 : Prop := ∀ (a0 : Int) (a1 : Int), Con Go.Proofs.Try.prog 63 [.s (.int .i64 (.sym a0)), .s (.int .i64 (.sym a1))] (.s (.bool (.sym ((fUpto a0 a1)))))

theorem ok63 (h : Con63) : EntryOK Go.Proofs.Try.prog e63 := by
  refine EntryOK.pure fun args r req hc hq => ?_
  unfold c63 at hc
  split at hc
  · rename_i x0 x1
    simp only [Option.some.injEq, Prod.mk.injEq] at hc
    obtain ⟨rfl, rfl⟩ := hc
    exact Con.args (h (x0.li) (x1.li)) fun w vs hv => (match vs, hv with
      | [_, _], ⟨h0, h1, _⟩ => ⟨h0, h1, trivial⟩)
  · cases hc

def Con64 : Prop := ∀ (a0 : Int), Con Go.Proofs.Try.prog 64 [.s (.int .i64 (.sym a0))] (.s (.bool (.sym ((fSpecial a0)))))

theorem ok64 (h : Con64) : EntryOK Go.Proofs.Try.prog e64 := by
  refine EntryOK.pure fun args r req hc hq => ?_
  unfold c64 at hc
  split at hc
  · rename_i x0
    simp only [Option.some.injEq, Prod.mk.injEq] at hc
    obtain ⟨rfl, rfl⟩ := hc
    exact Con.args (h (x0.li)) fun w vs hv => (match vs, hv with
      | [_], ⟨h0, _⟩ => ⟨h0, trivial⟩)
  · cases hc

def Con57 : Prop := ∀ (a0 : Bool) (a1 : Int), Con Go.Proofs.Try.prog 57 [.s (.bool (.sym a0)), .s (.int .i64 (.sym a1))] (.s (.int .i64 (.sym ((fFlag a0 a1)))))

theorem ok57 (h : Con57) : EntryOK Go.Proofs.Try.prog e57 := by
  refine EntryOK.pure fun args r req hc hq => ?_
  unfold c57 at hc
  split at hc
  · rename_i x0 x1
    simp only [Option.some.injEq, Prod.mk.injEq] at hc
    obtain ⟨rfl, rfl⟩ := hc
    exact Con.args (h (x0.lb) (x1.li)) fun w vs hv => (match vs, hv with
      | [_, _], ⟨h0, h1, _⟩ => ⟨h0, h1, trivial⟩)
  · cases hc

def Con55 : Prop := ∀ (a0 : Addr), Con Go.Proofs.Try.prog 55 [.agg (encAddr a0)] (.s (.str ((fBytes a0))))

theorem ok55 (h : Con55) : EntryOK Go.Proofs.Try.prog e55 := by
  refine EntryOK.pure fun args r req hc hq => ?_
  unfold c55 at hc
  split at hc
  · rename_i x0
    split at hc
    · rename_i y0 hy0
      simp only [Option.some.injEq, Prod.mk.injEq] at hc
      obtain ⟨rfl, rfl⟩ := hc
      exact Con.args (h (y0)) fun w vs hv => (match vs, hv with
        | [_], ⟨h0, _⟩ => ⟨(let ⟨cs, e1, e2⟩ := h0; ⟨cs, e1, decAddr_rep hy0 e2⟩), trivial⟩)
    · cases hc
  · cases hc

def Con65 : Prop := ∀ (a0 : Addr), Con Go.Proofs.Try.prog 65 [.agg (encAddr a0)] (.s (.bool (.sym ((fValid a0)))))

theorem ok65 (h : Con65) : EntryOK Go.Proofs.Try.prog e65 := by
  refine EntryOK.pure fun args r req hc hq => ?_
  unfold c65 at hc
  split at hc
  · rename_i x0
    split at hc
    · rename_i y0 hy0
      simp only [Option.some.injEq, Prod.mk.injEq] at hc
      obtain ⟨rfl, rfl⟩ := hc
      exact Con.args (h (y0)) fun w vs hv => (match vs, hv with
        | [_], ⟨h0, _⟩ => ⟨(let ⟨cs, e1, e2⟩ := h0; ⟨cs, e1, decAddr_rep hy0 e2⟩), trivial⟩)
    · cases hc
  · cases hc

def Con123 : Prop := ∀ (a0 : Addr), Con Go.Proofs.Try.prog 123 [.agg (encAddr a0)] (.s (.bool (.sym ((fNone a0)))))

theorem ok123 (h : Con123) : EntryOK Go.Proofs.Try.prog e123 := by
  refine EntryOK.pure fun args r req hc hq => ?_
  unfold c123 at hc
  split at hc
  · rename_i x0
    split at hc
    · rename_i y0 hy0
      simp only [Option.some.injEq, Prod.mk.injEq] at hc
      obtain ⟨rfl, rfl⟩ := hc
      exact Con.args (h (y0)) fun w vs hv => (match vs, hv with
        | [_], ⟨h0, _⟩ => ⟨(let ⟨cs, e1, e2⟩ := h0; ⟨cs, e1, decAddr_rep hy0 e2⟩), trivial⟩)
    · cases hc
  · cases hc

def Con124 : Prop := ∀ (a0 : Addr), Con Go.Proofs.Try.prog 124 [.agg (encAddr a0)] (.s (.bool (.sym ((fNone a0)))))

theorem ok124 (h : Con124) : EntryOK Go.Proofs.Try.prog e124 := by
  refine EntryOK.pure fun args r req hc hq => ?_
  unfold c124 at hc
  split at hc
  · rename_i x0
    split at hc
    · rename_i y0 hy0
      simp only [Option.some.injEq, Prod.mk.injEq] at hc
      obtain ⟨rfl, rfl⟩ := hc
      exact Con.args (h (y0)) fun w vs hv => (match vs, hv with
        | [_], ⟨h0, _⟩ => ⟨(let ⟨cs, e1, e2⟩ := h0; ⟨cs, e1, decAddr_rep hy0 e2⟩), trivial⟩)
    · cases hc
  · cases hc

def Con95 : Prop := ∀ (a0 : Addr), Con Go.Proofs.Try.prog 95 [.agg (encAddr a0)] (.s (.bool (.sym ((fGroup a0)))))

theorem ok95 (h : Con95) : EntryOK Go.Proofs.Try.prog e95 := by
  refine EntryOK.pure fun args r req hc hq => ?_
  unfold c95 at hc
  split at hc
  · rename_i x0
    split at hc
    · rename_i y0 hy0
      simp only [Option.some.injEq, Prod.mk.injEq] at hc
      obtain ⟨rfl, rfl⟩ := hc
      exact Con.args (h (y0)) fun w vs hv => (match vs, hv with
        | [_], ⟨h0, _⟩ => ⟨(let ⟨cs, e1, e2⟩ := h0; ⟨cs, e1, decAddr_rep hy0 e2⟩), trivial⟩)
    · cases hc
  · cases hc

def Con99 : Prop := ∀ (a0 : Addr), Con Go.Proofs.Try.prog 99 [.agg (encAddr a0)] (.s (.bool (.sym ((fGroup a0)))))

theorem ok99 (h : Con99) : EntryOK Go.Proofs.Try.prog e99 := by
  refine EntryOK.pure fun args r req hc hq => ?_
  unfold c99 at hc
  split at hc
  · rename_i x0
    split at hc
    · rename_i y0 hy0
      simp only [Option.some.injEq, Prod.mk.injEq] at hc
      obtain ⟨rfl, rfl⟩ := hc
      exact Con.args (h (y0)) fun w vs hv => (match vs, hv with
        | [_], ⟨h0, _⟩ => ⟨(let ⟨cs, e1, e2⟩ := h0; ⟨cs, e1, decAddr_rep hy0 e2⟩), trivial⟩)
    · cases hc
  · cases hc

def Con66 : Prop := ∀ (a0 : Int) (a1 : Int), Con Go.Proofs.Try.prog 66 [.s (.int .i64 (.sym a0)), .s (.int .i64 (.sym a1))] (.s (.bool (.sym ((fUpto a0 a1)))))

theorem ok66 (h : Con66) : EntryOK Go.Proofs.Try.prog e66 := by
  refine EntryOK.pure fun args r req hc hq => ?_
  unfold c66 at hc
  split at hc
  · rename_i x0 x1
    simp only [Option.some.injEq, Prod.mk.injEq] at hc
    obtain ⟨rfl, rfl⟩ := hc
    exact Con.args (h (x0.li) (x1.li)) fun w vs hv => (match vs, hv with
      | [_, _], ⟨h0, h1, _⟩ => ⟨h0, h1, trivial⟩)
  · cases hc

def Con68 : Prop := ∀ (a0 : Int), Con Go.Proofs.Try.prog 68 [.s (.int .i64 (.sym a0))] (.s (.bool (.sym ((fSpecial a0)))))

theorem ok68 (h : Con68) : EntryOK Go.Proofs.Try.prog e68 := by
  refine EntryOK.pure fun args r req hc hq => ?_
  unfold c68 at hc
  split at hc
  · rename_i x0
    simp only [Option.some.injEq, Prod.mk.injEq] at hc
    obtain ⟨rfl, rfl⟩ := hc
    exact Con.args (h (x0.li)) fun w vs hv => (match vs, hv with
      | [_], ⟨h0, _⟩ => ⟨h0, trivial⟩)
  · cases hc

def Con96 : Prop := ∀ (a0 : Bool), Con Go.Proofs.Try.prog 96 [.s (.bool (.sym a0))] (.s (.int .i64 (.sym ((fProto a0)))))

theorem ok96 (h : Con96) : EntryOK Go.Proofs.Try.prog e96 := by
  refine EntryOK.pure fun args r req hc hq => ?_
  unfold c96 at hc
  split at hc
  · rename_i x0
    simp only [Option.some.injEq, Prod.mk.injEq] at hc
    obtain ⟨rfl, rfl⟩ := hc
    exact Con.args (h (x0.lb)) fun w vs hv => (match vs, hv with
      | [_], ⟨h0, _⟩ => ⟨h0, trivial⟩)
  · cases hc

def Con100 : Prop := ∀ (a0 : Bool), Con Go.Proofs.Try.prog 100 [.s (.bool (.sym a0))] (.s (.int .i64 (.sym ((fProto a0)))))

theorem ok100 (h : Con100) : EntryOK Go.Proofs.Try.prog e100 := by
  refine EntryOK.pure fun args r req hc hq => ?_
  unfold c100 at hc
  split at hc
  · rename_i x0
    simp only [Option.some.injEq, Prod.mk.injEq] at hc
    obtain ⟨rfl, rfl⟩ := hc
    exact Con.args (h (x0.lb)) fun w vs hv => (match vs, hv with
      | [_], ⟨h0, _⟩ => ⟨h0, trivial⟩)
  · cases hc

def Con108 : Prop := ∀ (a0 : (List UInt8)), Con Go.Proofs.Try.prog 108 [.s (.str a0)] (.tup [.agg (encAddr ((fFrom a0).1)), .s (.int .i64 (.sym ((fFrom a0).2)))])

theorem ok108 (h : Con108) : EntryOK Go.Proofs.Try.prog e108 := by
  refine EntryOK.pure fun args r req hc hq => ?_
  unfold c108 at hc
  split at hc
  · rename_i x0
    simp only [Option.some.injEq, Prod.mk.injEq] at hc
    obtain ⟨rfl, rfl⟩ := hc
    exact Con.args (h (x0)) fun w vs hv => (match vs, hv with
      | [_], ⟨h0, _⟩ => ⟨h0, trivial⟩)
  · cases hc

def Con53 : Prop := Con Go.Proofs.Try.prog 53 [] (.agg (encPkt true ((fSmall))))

theorem ok53 (h : Con53) : EntryOK Go.Proofs.Try.prog e53 := by
  refine EntryOK.pure fun args r req hc hq => ?_
  unfold c53 at hc
  split at hc
  · skip
    simp only [Option.some.injEq, Prod.mk.injEq] at hc
    obtain ⟨rfl, rfl⟩ := hc
    exact h
  · cases hc

end Go.Adit
