/- Part of the proofs of the laws: lemmas and contracts, no statement of its own. -/
import Derived.Test.YtledohjnchnmhaaLaw4
set_option linter.unusedVariables false
set_option linter.unusedSimpArgs false
namespace Go.Adit
open Go.RowKit Go.Proofs
set_option maxRecDepth 100000
/-- one byte changed: the sum of the words changes by so much, or 256 times so much -/
theorem ws_turn (x y : UInt8) (v : List UInt8) : ∀ (u : List UInt8) (o : Bool), ∃ m, (m = 1 ∨ m = 256) ∧ wordSum o (u ++ x :: v) + m * y.toNat = wordSum o (u ++ y :: v) + m * x.toNat
  | [], true => ⟨1, .inl rfl, by simp only [List.nil_append, wordSum]; omega⟩
  | [], false => ⟨256, .inr rfl, by simp only [List.nil_append, wordSum]; omega⟩
  | a :: u, true => by
    obtain ⟨m, hm, e⟩ := ws_turn x y v u false
    exact ⟨m, hm, by simp only [List.cons_append, wordSum]; omega⟩
  | a :: u, false => by
    obtain ⟨m, hm, e⟩ := ws_turn x y v u true
    exact ⟨m, hm, by simp only [List.cons_append, wordSum]; omega⟩
theorem foldN_turn {n m d : Nat} (h : n + d = m) (h0 : 0 < d) (h1 : d < 65535) : foldN n ≠ foldN m := by
  unfold foldN
  split <;> split <;> omega
theorem sum_turn (x y : UInt8) (hxy : x ≠ y) (u v : List UInt8) : foldN (wordSum false (u ++ x :: v)) ≠ foldN (wordSum false (u ++ y :: v)) := by
  obtain ⟨m, hm, e⟩ := ws_turn x y v u false
  have hx := x.toNat_lt
  have hy := y.toNat_lt
  have hne : x.toNat ≠ y.toNat := fun h => hxy (UInt8.toNat_inj.1 h)
  rcases Nat.lt_or_gt_of_ne hne with h | h
  · refine foldN_turn (d := m * (y.toNat - x.toNat)) ?_ ?_ ?_
    · rcases hm with rfl | rfl <;> omega
    · rcases hm with rfl | rfl <;> omega
    · rcases hm with rfl | rfl <;> omega
  · refine (foldN_turn (d := m * (x.toNat - y.toNat)) ?_ ?_ ?_).symm
    · rcases hm with rfl | rfl <;> omega
    · rcases hm with rfl | rfl <;> omega
    · rcases hm with rfl | rfl <;> omega
theorem getD_mid (u v : List UInt8) (x : UInt8) (i : Nat) : (u ++ x :: v).getD i 0 = if i = u.length then x else if i < u.length then u.getD i 0 else v.getD (i - u.length - 1) 0 := by
  simp only [List.getD_eq_getElem?_getD]
  split
  · rename_i h; subst h; rw [List.getElem?_append_right (by omega)]; simp
  · split
    · rw [List.getElem?_append_left (by omega)]
    · rw [List.getElem?_append_right (by omega)]
      obtain ⟨k, hk⟩ : ∃ k, i - u.length = k + 1 := ⟨i - u.length - 1, by omega⟩
      rw [hk]; simp
/-- a header's byte changed -/
theorem hdr_turn {p : Packet} (h4 : p.opts.length % 4 = 0) (h40 : p.opts.length ≤ 40) {u v : List UInt8} {x y : UInt8} (H : Hdr p (u ++ x :: v)) (hk : 1 ≤ u.length) (hk2 : u.length < 20 + p.opts.length) (hxy : x ≠ y) :
    r4err (u ++ y :: v) = some 72 ∨ r4err (u ++ y :: v) = some 73 := by
  have hl : (u ++ y :: v).length = (u ++ x :: v).length := by simp
  have hlen := H.len
  have h0 : (u ++ y :: v).getD 0 0 = (u ++ x :: v).getD 0 0 := by
    rw [getD_mid, getD_mid]
    simp only [show ¬ (0 = u.length) by omega, show 0 < u.length by omega, if_true, if_false]
  have hh : ∀ c : List UInt8, 1 ≤ c.length → (c.getD 0 0).toNat = 64 + (20 + p.opts.length) / 4 → r4h c = 20 + p.opts.length := by
    intro c hc e
    unfold r4h
    rw [num1 _ 0 hc, e]; omega
  have r1 := hh (u ++ x :: v) (by omega) H.b0
  have r2 := hh (u ++ y :: v) (by omega) (by rw [h0]; exact H.b0)
  unfold r4err
  rw [r2]
  split
  · exact .inl rfl
  · rename_i hc
    have key : r4sum (u ++ y :: v) ≠ num (u ++ y :: v) 10 2 := by
      have hs := H.sum
      have n1 := num2 (u ++ x :: v) 10 (by omega)
      have n2 := num2 (u ++ y :: v) 10 (by omega)
      rw [getD_mid, getD_mid] at n1 n2
      have hne : x.toNat ≠ y.toNat := fun h => hxy (UInt8.toNat_inj.1 h)
      have hx := x.toNat_lt
      have hy := y.toNat_lt
      by_cases h10 : u.length = 10 ∨ u.length = 11
      · have e : r4sum (u ++ y :: v) = r4sum (u ++ x :: v) := by
          unfold r4sum
          rw [r1, r2]
          have e1 : lsSub (u ++ y :: v) 0 10 = lsSub (u ++ x :: v) 0 10 := by
            show ((u ++ y :: v).take 10).drop 0 = ((u ++ x :: v).take 10).drop 0
            rw [List.take_append_of_le_length (by omega), List.take_append_of_le_length (by omega)]
          have e2 : lsSub (u ++ y :: v) 12 ((20 + p.opts.length : Nat) : Int) = lsSub (u ++ x :: v) 12 ((20 + p.opts.length : Nat) : Int) := by
            show ((u ++ y :: v).take (20 + p.opts.length)).drop 12 = ((u ++ x :: v).take (20 + p.opts.length)).drop 12
            rw [List.drop_take, List.drop_take]
            rw [List.drop_append, List.drop_append, List.drop_of_length_le (by omega)]
            rw [show 12 - u.length = (11 - u.length) + 1 by omega, List.drop_succ_cons, List.drop_succ_cons]
          rw [e1, e2]
        rw [e, hs, n1, n2]
        intro hh
        have hh' := Int.ofNat.inj hh
        rcases h10 with h | h
        · rw [h] at hh'
          simp only [if_true, Nat.reduceEqDiff, if_false] at hh'
          omega
        · rw [h] at hh'
          simp only [if_true, Nat.reduceEqDiff, if_false] at hh'
          omega
      · have en : num (u ++ y :: v) 10 2 = num (u ++ x :: v) 10 2 := by
          rw [n1, n2]
          simp only [show ¬ (10 = u.length) by omega, show ¬ (10 + 1 = u.length) by omega, if_false]
        rw [en, ← hs]
        unfold r4sum fSum
        rw [r1, r2]
        simp only [List.flatten_cons, List.flatten_nil, List.append_nil]
        have t0 : ∀ c : UInt8, lsSub (u ++ c :: v) 0 10 = (u ++ c :: v).take 10 := fun c => rfl
        have t1 : ∀ c : UInt8, lsSub (u ++ c :: v) 12 ((20 + p.opts.length : Nat) : Int) = ((u ++ c :: v).take (20 + p.opts.length)).drop 12 := fun c => rfl
        simp only [t0, t1]
        by_cases hlt : u.length < 10
        · have a0 : ∀ c : UInt8, (u ++ c :: v).take 10 ++ ((u ++ c :: v).take (20 + p.opts.length)).drop 12 = u ++ c :: (v.take (9 - u.length) ++ (v.drop (11 - u.length)).take (20 + p.opts.length - 12)) := by
            intro c
            rw [List.drop_take, List.take_append, List.take_of_length_le (by omega), List.drop_append, List.drop_of_length_le (by omega), List.nil_append]
            rw [show 10 - u.length = (9 - u.length) + 1 by omega, show 12 - u.length = (11 - u.length) + 1 by omega, List.take_succ_cons, List.drop_succ_cons]
            simp only [List.append_assoc, List.cons_append]
          rw [a0, a0]
          have := sum_turn x y hxy u (v.take (9 - u.length) ++ (v.drop (11 - u.length)).take (20 + p.opts.length - 12))
          have b1 := foldN_le (wordSum false (u ++ x :: (v.take (9 - u.length) ++ (v.drop (11 - u.length)).take (20 + p.opts.length - 12))))
          omega
        · have a0 : ∀ c : UInt8, (u ++ c :: v).take 10 ++ ((u ++ c :: v).take (20 + p.opts.length)).drop 12 = (u.take 10 ++ u.drop 12) ++ c :: v.take (20 + p.opts.length - u.length - 1) := by
            intro c
            rw [List.take_append_of_le_length (by omega)]
            rw [List.take_append, List.take_of_length_le (show u.length ≤ 20 + p.opts.length by omega), List.drop_append_of_le_length (by omega)]
            obtain ⟨k, hk'⟩ : ∃ k, 20 + p.opts.length - u.length = k + 1 := ⟨20 + p.opts.length - u.length - 1, by omega⟩
            rw [hk', List.take_succ_cons]
            simp only [List.append_assoc, Nat.add_sub_cancel]
          rw [a0, a0]
          have := sum_turn x y hxy (u.take 10 ++ u.drop 12) (v.take (20 + p.opts.length - u.length - 1))
          omega
    rw [if_pos key]
    exact .inr rfl
end Go.Adit
