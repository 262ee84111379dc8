/- Part of the proofs of the laws: lemmas and contracts, no statement of its own. -/
import Derived.Test.YtledohjnchnmhaaNum
import Derived.Test.YtledohjnchnmhaaRdr
import Derived.Test.YtledohjnchnmhaaSum2
import Derived.Test.YtledohjnchnmhaaTryX
set_option linter.unusedVariables false
set_option linter.unusedSimpArgs false
namespace Go.Adit
open Go.RowKit Go.Proofs
set_option maxRecDepth 100000
theorem con119 : ConSame Try.prog 119 := by
  refine ⟨⟨Try.f119, Try.func119, by kernel_rfl, by kernel_rfl⟩, fun w a n cap hi hc => ?_⟩
  refine calls_of_wp (fn := Try.f119) (c := bodyOf Try.f119) Try.func119 (by kernel_rfl) ?_
  have hi' : (n : Int) ≤ 9223372036854775807 := hi
  unfold bodyOf Try.f119
  go_wp2
  exact ⟨rfl, .slice a n n, by kernel_rfl, ⟨n, rfl, fun h => by omega⟩, Below.refl _ _⟩
end Go.Adit

namespace Go.Adit
open Go.RowKit Go.Proofs
set_option maxRecDepth 100000
def kp77 : Nat → Option (List Nat × List Nat)
  | 0 => some ([0, 2, 4, 6, 7], [1000000, 2, 4, 37])
  | _ => none
def x77 : Xt := { dyn := fun n => Nat.beq n 17, gk := fun n i => if n == 4 && i == 43 then some 36 else none, same := fun f => Nat.beq f 119 }
def z27n : List SC := [.bool (.lit false), .int .u8 (.lit 0), .int .u8 (.lit 0), .int .u8 (.lit 0), .int .u8 (.lit 0), .int .u8 (.lit 0), .int .u8 (.lit 0), .int .u8 (.lit 0), .int .u8 (.lit 0), .int .u8 (.lit 0), .int .u8 (.lit 0), .int .u8 (.lit 0), .int .u8 (.lit 0), .int .u8 (.lit 0), .int .u8 (.lit 0), .int .u8 (.lit 0), .int .u8 (.lit 0), .bool (.lit false), .int .u8 (.lit 0), .int .u8 (.lit 0), .int .u8 (.lit 0), .int .u8 (.lit 0), .int .u8 (.lit 0), .int .u8 (.lit 0), .int .u8 (.lit 0), .int .u8 (.lit 0), .int .u8 (.lit 0), .int .u8 (.lit 0), .int .u8 (.lit 0), .int .u8 (.lit 0), .int .u8 (.lit 0), .int .u8 (.lit 0), .int .u8 (.lit 0), .int .u8 (.lit 0), .int .i64 (.lit 0), .int .i64 (.lit 0), .int .i64 (.lit 0), .int .i64 (.lit 0), .int .i64 (.lit 0), .bool (.lit false), .bool (.lit false), .str (lsLit []), .int .i64 (.lit 0), .nils, .bool (.lit false), .str (lsLit [])]
def T77v (k : Int) : List (Nat × D) := [(0, .s (.ptr 1000000 0)), (2, .s (.ptr 2 0)), (4, .s (.ptr 4 0)), (6, .s (.int .i64 (.sym k))), (7, .s (.ptr 37 0))]
def T77m (b : List UInt8) (a0 : Int) (p : Packet) (l : List Ext) (x : List UInt8) (a : Int) : List (Nat × Blk) := [(1000000, ⟨[.str b, .int .i64 (.sym a0)], 0⟩), (2, ⟨z27n, 27⟩), (4, ⟨encAddr p.src ++ (encAddr p.dst ++ [.int .i64 (.lit 0), .int .i64 (.sym p.hop), .int .i64 (.sym p.cls), .int .i64 (.lit 0), .int .i64 (.lit 0), .bool (.lit false), .bool (.lit false), .str (lsLit []), .int .i64 (.sym p.flow), .gs 600299 36 (.exts l), .bool (.lit false), .str (lsLit [])]), 27⟩), (37, ⟨[.str x, .int .i64 (.sym a)], 105⟩)]
def es77 : List Entry := [e115, e116, e117, e118, e75, e64]
def tm77 (b : List UInt8) : Tr := (.ite (fShortBy b (liLit 0) (liLit 4))
 (.req [(fFits b (liLit 0))]
  (.die (72)))
 (.req [(fFits b (liLit 0))]
  (.ite (fShortBy b (liLit 4) (liLit 2))
   (.req [(fFits b (liLit 4))]
    (.die (72)))
   (.req [(fFits b (liLit 4))]
    (.ite (fShortBy b (liLit 6) (liLit 1))
     (.req [(fFits b (liLit 6))]
      (.die (72)))
     (.req [(fFits b (liLit 6))]
      (.ite (fShortBy b (liLit 7) (liLit 1))
       (.req [(fFits b (liLit 7))]
        (.die (72)))
       (.req [(fFits b (liLit 7))]
        (.ite (fShortBy b (liLit 8) (liLit 16))
         (.req [(fFits b (liLit 8))]
          (.die (72)))
         (.req [(fFits b (liLit 8))]
          (.ite (fShortBy b (liLit 24) (liLit 16))
           (.req [(fFits b (liLit 24))]
            (.die (72)))
           (.req [(fFits b (liLit 24))]
            (.ite (fShortBy b (liLit 40) (fNum b (liLit 4) 2))
             (.req [(fFits b (liLit 40))]
              (.die (72)))
             (.req [(fFits b (liLit 40))]
              (.loop 0 [(0, .s (.ptr 1000000 0)), (2, .s (.ptr 2 0)), (4, .s (.ptr 4 0)), (6, .s (.int .i64 (.sym (fNum b (liLit 6) 1)))), (7, .s (.ptr 37 0))] [(1000000, ⟨[.str b, .int .i64 (.sym (fAdv (liLit 40) (fNum b (liLit 4) 2)))], 0⟩), (2, ⟨z27n, 27⟩), (4, ⟨(encAddr (fAddrAt b (liLit 8) 16) ++ (encAddr (fAddrAt b (liLit 24) 16) ++ [.int .i64 (.lit 0), .int .i64 (.sym (fNum b (liLit 7) 1)), .int .i64 (.sym (liAnd .i64 (liShr .i64 (fNum b (liLit 0) 4) (liLit 20)) (liLit 255))), .int .i64 (.lit 0), .int .i64 (.lit 0), .bool (.lit false), .bool (.lit false), .str (lsLit []), .int .i64 (.sym (liAnd .i64 (fNum b (liLit 0) 4) (liLit 1048575))), .gs 600299 36 (.exts lxNil), .bool (.lit false), .str (lsLit [])])), 27⟩), (37, ⟨[.str (fTake b (liLit 40) (fNum b (liLit 4) 2)), .int .i64 (.lit 0)], 105⟩)])))))))))))))))
def tr77 (b : List UInt8) (a0 : Int) (p : Packet) (k : Int) (l : List Ext) (x : List UInt8) (a : Int) : Tr := (.ite (lbEqI k (liLit 0))
 (.ite (lbEqI k (liLit 0))
  (.ite (lbLt (liLenX l) (liLit 4))
   (.ite (lbNot (lbEqI k (liLit 0)))
    (.ite (lbNot (lbLe (liLit 8) (fLeft x a)))
     (.req [(fFits x a)]
      (.die (72)))
     (.req [(fFits x a)]
      (.ite (fShortBy x a (liLit 1))
       (.req [(fFits x a)]
        (.die (72)))
       (.req [(fFits x a)]
        (.ite (fShortBy x (fAdv a (liLit 1)) (liLit 1))
         (.req [(fFits x (fAdv a (liLit 1)))]
          (.die (72)))
         (.req [(fFits x (fAdv a (liLit 1)))]
          (.ite (fShortBy x (fAdv (fAdv a (liLit 1)) (liLit 1)) (liAdd .i64 (liMul .i64 (fNum x (fAdv a (liLit 1)) 1) (liLit 8)) (liLit 6)))
           (.req [(fFits x (fAdv (fAdv a (liLit 1)) (liLit 1))), (lbFew (liLenX l) (liLenX (lxOne k (fTake x (fAdv (fAdv a (liLit 1)) (liLit 1)) (liAdd .i64 (liMul .i64 (fNum x (fAdv a (liLit 1)) 1) (liLit 8)) (liLit 6))))))]
            (.die (72)))
           (.req [(fFits x (fAdv (fAdv a (liLit 1)) (liLit 1))), (lbFew (liLenX l) (liLenX (lxOne k (fTake x (fAdv (fAdv a (liLit 1)) (liLit 1)) (liAdd .i64 (liMul .i64 (fNum x (fAdv a (liLit 1)) 1) (liLit 8)) (liLit 6))))))]
            (.back 0 [(0, .s (.ptr 1000000 0)), (2, .s (.ptr 2 0)), (4, .s (.ptr 4 0)), (6, .s (.int .i64 (.sym (fNum x a 1)))), (7, .s (.ptr 37 0))] [(1000000, ⟨[.str b, .int .i64 (.sym a0)], 0⟩), (2, ⟨z27n, 27⟩), (4, ⟨(encAddr p.src ++ (encAddr p.dst ++ [.int .i64 (.lit 0), .int .i64 (.sym p.hop), .int .i64 (.sym p.cls), .int .i64 (.lit 0), .int .i64 (.lit 0), .bool (.lit false), .bool (.lit false), .str (lsLit []), .int .i64 (.sym p.flow), .gs 600299 36 (.exts (lxCat l (lxOne k (fTake x (fAdv (fAdv a (liLit 1)) (liLit 1)) (liAdd .i64 (liMul .i64 (fNum x (fAdv a (liLit 1)) 1) (liLit 8)) (liLit 6)))))), .bool (.lit false), .str (lsLit [])])), 27⟩), (37, ⟨[.str x, .int .i64 (.sym (fAdv (fAdv (fAdv a (liLit 1)) (liLit 1)) (liAdd .i64 (liMul .i64 (fNum x (fAdv a (liLit 1)) 1) (liLit 8)) (liLit 6))))], 105⟩)])))))))))
    (.ite (lbNot (lbEqI (liLenX l) (liLit 0)))
     (.req []
      (.die (74)))
     (.ite (lbNot (lbLe (liLit 8) (fLeft x a)))
      (.req [(fFits x a)]
       (.die (72)))
      (.req [(fFits x a)]
       (.ite (fShortBy x a (liLit 1))
        (.req [(fFits x a)]
         (.die (72)))
        (.req [(fFits x a)]
         (.ite (fShortBy x (fAdv a (liLit 1)) (liLit 1))
          (.req [(fFits x (fAdv a (liLit 1)))]
           (.die (72)))
          (.req [(fFits x (fAdv a (liLit 1)))]
           (.ite (fShortBy x (fAdv (fAdv a (liLit 1)) (liLit 1)) (liAdd .i64 (liMul .i64 (fNum x (fAdv a (liLit 1)) 1) (liLit 8)) (liLit 6)))
            (.req [(fFits x (fAdv (fAdv a (liLit 1)) (liLit 1))), (lbFew (liLenX l) (liLenX (lxOne k (fTake x (fAdv (fAdv a (liLit 1)) (liLit 1)) (liAdd .i64 (liMul .i64 (fNum x (fAdv a (liLit 1)) 1) (liLit 8)) (liLit 6))))))]
             (.die (72)))
            (.req [(fFits x (fAdv (fAdv a (liLit 1)) (liLit 1))), (lbFew (liLenX l) (liLenX (lxOne k (fTake x (fAdv (fAdv a (liLit 1)) (liLit 1)) (liAdd .i64 (liMul .i64 (fNum x (fAdv a (liLit 1)) 1) (liLit 8)) (liLit 6))))))]
             (.back 0 [(0, .s (.ptr 1000000 0)), (2, .s (.ptr 2 0)), (4, .s (.ptr 4 0)), (6, .s (.int .i64 (.sym (fNum x a 1)))), (7, .s (.ptr 37 0))] [(1000000, ⟨[.str b, .int .i64 (.sym a0)], 0⟩), (2, ⟨z27n, 27⟩), (4, ⟨(encAddr p.src ++ (encAddr p.dst ++ [.int .i64 (.lit 0), .int .i64 (.sym p.hop), .int .i64 (.sym p.cls), .int .i64 (.lit 0), .int .i64 (.lit 0), .bool (.lit false), .bool (.lit false), .str (lsLit []), .int .i64 (.sym p.flow), .gs 600299 36 (.exts (lxCat l (lxOne k (fTake x (fAdv (fAdv a (liLit 1)) (liLit 1)) (liAdd .i64 (liMul .i64 (fNum x (fAdv a (liLit 1)) 1) (liLit 8)) (liLit 6)))))), .bool (.lit false), .str (lsLit [])])), 27⟩), (37, ⟨[.str x, .int .i64 (.sym (fAdv (fAdv (fAdv a (liLit 1)) (liLit 1)) (liAdd .i64 (liMul .i64 (fNum x (fAdv a (liLit 1)) 1) (liLit 8)) (liLit 6))))], 105⟩)])))))))))))
   (.req []
    (.die (74))))
  (.ite (lbEqI k (liLit 44))
   (.ite (lbNot (lbLe (liLit 8) (fLeft x a)))
    (.req [(fFits x a)]
     (.die (72)))
    (.req [(fFits x a)]
     (.ite (fShortBy x a (liLit 1))
      (.req [(fFits x a)]
       (.die (72)))
      (.req [(fFits x a)]
       (.ite (fShortBy x (fAdv a (liLit 1)) (liLit 1))
        (.req [(fFits x (fAdv a (liLit 1)))]
         (.die (72)))
        (.req [(fFits x (fAdv a (liLit 1)))]
         (.ite (fShortBy x (fAdv (fAdv a (liLit 1)) (liLit 1)) (liLit 2))
          (.req [(fFits x (fAdv (fAdv a (liLit 1)) (liLit 1)))]
           (.die (72)))
          (.req [(fFits x (fAdv (fAdv a (liLit 1)) (liLit 1)))]
           (.ite (lbEqI (fNum x (fAdv a (liLit 1)) 1) (liLit 0))
            (.ite (lbEqI (liAnd .i64 (fNum x (fAdv (fAdv a (liLit 1)) (liLit 1)) 2) (liLit 6)) (liLit 0))
             (.ite (lbNot (lbNot (fSpecial (fNum x a 1))))
              (.req []
               (.die (74)))
              (.ite (fShortBy x (fAdv (fAdv (fAdv a (liLit 1)) (liLit 1)) (liLit 2)) (liLit 4))
               (.req [(fFits x (fAdv (fAdv (fAdv a (liLit 1)) (liLit 1)) (liLit 2)))]
                (.die (72)))
               (.req [(fFits x (fAdv (fAdv (fAdv a (liLit 1)) (liLit 1)) (liLit 2)))]
                (.ite (fShortBy x (fAdv (fAdv (fAdv (fAdv a (liLit 1)) (liLit 1)) (liLit 2)) (liLit 4)) (fLeft x (fAdv (fAdv (fAdv (fAdv a (liLit 1)) (liLit 1)) (liLit 2)) (liLit 4))))
                 (.req [(fFits x (fAdv (fAdv (fAdv (fAdv a (liLit 1)) (liLit 1)) (liLit 2)) (liLit 4))), (fFits x (fAdv (fAdv (fAdv (fAdv a (liLit 1)) (liLit 1)) (liLit 2)) (liLit 4)))]
                  (.die (72)))
                 (.req [(fFits x (fAdv (fAdv (fAdv (fAdv a (liLit 1)) (liLit 1)) (liLit 2)) (liLit 4))), (fFits x (fAdv (fAdv (fAdv (fAdv a (liLit 1)) (liLit 1)) (liLit 2)) (liLit 4)))]
                  (.ret (.agg (encAddr p.src ++ (encAddr p.dst ++ [.int .i64 (.sym (fNum x a 1)), .int .i64 (.sym p.hop), .int .i64 (.sym p.cls), .int .i64 (.sym (fNum x (fAdv (fAdv (fAdv a (liLit 1)) (liLit 1)) (liLit 2)) 4)), .int .i64 (.sym (liAndNot .i64 (fNum x (fAdv (fAdv a (liLit 1)) (liLit 1)) 2) (liLit 7))), .bool (.sym (lbEqI (liAnd .i64 (fNum x (fAdv (fAdv a (liLit 1)) (liLit 1)) 2) (liLit 1)) (liLit 1))), .bool (.lit false), .str (lsLit []), .int .i64 (.sym p.flow), .exts l true, .bool (.lit true), .str (fTake x (fAdv (fAdv (fAdv (fAdv a (liLit 1)) (liLit 1)) (liLit 2)) (liLit 4)) (fLeft x (fAdv (fAdv (fAdv (fAdv a (liLit 1)) (liLit 1)) (liLit 2)) (liLit 4))))]))) [.str b, .int .i64 (.sym a0)]))))))
             (.req []
              (.die (74))))
            (.req []
             (.die (74))))))))))))
   (.ite (fShortBy x a (fLeft x a))
    (.req [(fFits x a), (fFits x a)]
     (.die (72)))
    (.req [(fFits x a), (fFits x a)]
     (.ret (.agg (encAddr p.src ++ (encAddr p.dst ++ [.int .i64 (.sym k), .int .i64 (.sym p.hop), .int .i64 (.sym p.cls), .int .i64 (.lit 0), .int .i64 (.lit 0), .bool (.lit false), .bool (.lit false), .str (lsLit []), .int .i64 (.sym p.flow), .exts l true, .bool (.lit false), .str (fTake x a (fLeft x a))]))) [.str b, .int .i64 (.sym a0)])))))
 (.ite (lbEqI k (liLit 43))
  (.ite (lbEqI k (liLit 43))
   (.ite (lbLt (liLenX l) (liLit 4))
    (.ite (lbNot (lbEqI k (liLit 0)))
     (.ite (lbNot (lbLe (liLit 8) (fLeft x a)))
      (.req [(fFits x a)]
       (.die (72)))
      (.req [(fFits x a)]
       (.ite (fShortBy x a (liLit 1))
        (.req [(fFits x a)]
         (.die (72)))
        (.req [(fFits x a)]
         (.ite (fShortBy x (fAdv a (liLit 1)) (liLit 1))
          (.req [(fFits x (fAdv a (liLit 1)))]
           (.die (72)))
          (.req [(fFits x (fAdv a (liLit 1)))]
           (.ite (fShortBy x (fAdv (fAdv a (liLit 1)) (liLit 1)) (liAdd .i64 (liMul .i64 (fNum x (fAdv a (liLit 1)) 1) (liLit 8)) (liLit 6)))
            (.req [(fFits x (fAdv (fAdv a (liLit 1)) (liLit 1))), (lbFew (liLenX l) (liLenX (lxOne k (fTake x (fAdv (fAdv a (liLit 1)) (liLit 1)) (liAdd .i64 (liMul .i64 (fNum x (fAdv a (liLit 1)) 1) (liLit 8)) (liLit 6))))))]
             (.die (72)))
            (.req [(fFits x (fAdv (fAdv a (liLit 1)) (liLit 1))), (lbFew (liLenX l) (liLenX (lxOne k (fTake x (fAdv (fAdv a (liLit 1)) (liLit 1)) (liAdd .i64 (liMul .i64 (fNum x (fAdv a (liLit 1)) 1) (liLit 8)) (liLit 6))))))]
             (.back 0 [(0, .s (.ptr 1000000 0)), (2, .s (.ptr 2 0)), (4, .s (.ptr 4 0)), (6, .s (.int .i64 (.sym (fNum x a 1)))), (7, .s (.ptr 37 0))] [(1000000, ⟨[.str b, .int .i64 (.sym a0)], 0⟩), (2, ⟨z27n, 27⟩), (4, ⟨(encAddr p.src ++ (encAddr p.dst ++ [.int .i64 (.lit 0), .int .i64 (.sym p.hop), .int .i64 (.sym p.cls), .int .i64 (.lit 0), .int .i64 (.lit 0), .bool (.lit false), .bool (.lit false), .str (lsLit []), .int .i64 (.sym p.flow), .gs 600299 36 (.exts (lxCat l (lxOne k (fTake x (fAdv (fAdv a (liLit 1)) (liLit 1)) (liAdd .i64 (liMul .i64 (fNum x (fAdv a (liLit 1)) 1) (liLit 8)) (liLit 6)))))), .bool (.lit false), .str (lsLit [])])), 27⟩), (37, ⟨[.str x, .int .i64 (.sym (fAdv (fAdv (fAdv a (liLit 1)) (liLit 1)) (liAdd .i64 (liMul .i64 (fNum x (fAdv a (liLit 1)) 1) (liLit 8)) (liLit 6))))], 105⟩)])))))))))
     (.ite (lbNot (lbEqI (liLenX l) (liLit 0)))
      (.req []
       (.die (74)))
      (.ite (lbNot (lbLe (liLit 8) (fLeft x a)))
       (.req [(fFits x a)]
        (.die (72)))
       (.req [(fFits x a)]
        (.ite (fShortBy x a (liLit 1))
         (.req [(fFits x a)]
          (.die (72)))
         (.req [(fFits x a)]
          (.ite (fShortBy x (fAdv a (liLit 1)) (liLit 1))
           (.req [(fFits x (fAdv a (liLit 1)))]
            (.die (72)))
           (.req [(fFits x (fAdv a (liLit 1)))]
            (.ite (fShortBy x (fAdv (fAdv a (liLit 1)) (liLit 1)) (liAdd .i64 (liMul .i64 (fNum x (fAdv a (liLit 1)) 1) (liLit 8)) (liLit 6)))
             (.req [(fFits x (fAdv (fAdv a (liLit 1)) (liLit 1))), (lbFew (liLenX l) (liLenX (lxOne k (fTake x (fAdv (fAdv a (liLit 1)) (liLit 1)) (liAdd .i64 (liMul .i64 (fNum x (fAdv a (liLit 1)) 1) (liLit 8)) (liLit 6))))))]
              (.die (72)))
             (.req [(fFits x (fAdv (fAdv a (liLit 1)) (liLit 1))), (lbFew (liLenX l) (liLenX (lxOne k (fTake x (fAdv (fAdv a (liLit 1)) (liLit 1)) (liAdd .i64 (liMul .i64 (fNum x (fAdv a (liLit 1)) 1) (liLit 8)) (liLit 6))))))]
              (.back 0 [(0, .s (.ptr 1000000 0)), (2, .s (.ptr 2 0)), (4, .s (.ptr 4 0)), (6, .s (.int .i64 (.sym (fNum x a 1)))), (7, .s (.ptr 37 0))] [(1000000, ⟨[.str b, .int .i64 (.sym a0)], 0⟩), (2, ⟨z27n, 27⟩), (4, ⟨(encAddr p.src ++ (encAddr p.dst ++ [.int .i64 (.lit 0), .int .i64 (.sym p.hop), .int .i64 (.sym p.cls), .int .i64 (.lit 0), .int .i64 (.lit 0), .bool (.lit false), .bool (.lit false), .str (lsLit []), .int .i64 (.sym p.flow), .gs 600299 36 (.exts (lxCat l (lxOne k (fTake x (fAdv (fAdv a (liLit 1)) (liLit 1)) (liAdd .i64 (liMul .i64 (fNum x (fAdv a (liLit 1)) 1) (liLit 8)) (liLit 6)))))), .bool (.lit false), .str (lsLit [])])), 27⟩), (37, ⟨[.str x, .int .i64 (.sym (fAdv (fAdv (fAdv a (liLit 1)) (liLit 1)) (liAdd .i64 (liMul .i64 (fNum x (fAdv a (liLit 1)) 1) (liLit 8)) (liLit 6))))], 105⟩)])))))))))))
    (.req []
     (.die (74))))
   (.ite (lbEqI k (liLit 44))
    (.ite (lbNot (lbLe (liLit 8) (fLeft x a)))
     (.req [(fFits x a)]
      (.die (72)))
     (.req [(fFits x a)]
      (.ite (fShortBy x a (liLit 1))
       (.req [(fFits x a)]
        (.die (72)))
       (.req [(fFits x a)]
        (.ite (fShortBy x (fAdv a (liLit 1)) (liLit 1))
         (.req [(fFits x (fAdv a (liLit 1)))]
          (.die (72)))
         (.req [(fFits x (fAdv a (liLit 1)))]
          (.ite (fShortBy x (fAdv (fAdv a (liLit 1)) (liLit 1)) (liLit 2))
           (.req [(fFits x (fAdv (fAdv a (liLit 1)) (liLit 1)))]
            (.die (72)))
           (.req [(fFits x (fAdv (fAdv a (liLit 1)) (liLit 1)))]
            (.ite (lbEqI (fNum x (fAdv a (liLit 1)) 1) (liLit 0))
             (.ite (lbEqI (liAnd .i64 (fNum x (fAdv (fAdv a (liLit 1)) (liLit 1)) 2) (liLit 6)) (liLit 0))
              (.ite (lbNot (lbNot (fSpecial (fNum x a 1))))
               (.req []
                (.die (74)))
               (.ite (fShortBy x (fAdv (fAdv (fAdv a (liLit 1)) (liLit 1)) (liLit 2)) (liLit 4))
                (.req [(fFits x (fAdv (fAdv (fAdv a (liLit 1)) (liLit 1)) (liLit 2)))]
                 (.die (72)))
                (.req [(fFits x (fAdv (fAdv (fAdv a (liLit 1)) (liLit 1)) (liLit 2)))]
                 (.ite (fShortBy x (fAdv (fAdv (fAdv (fAdv a (liLit 1)) (liLit 1)) (liLit 2)) (liLit 4)) (fLeft x (fAdv (fAdv (fAdv (fAdv a (liLit 1)) (liLit 1)) (liLit 2)) (liLit 4))))
                  (.req [(fFits x (fAdv (fAdv (fAdv (fAdv a (liLit 1)) (liLit 1)) (liLit 2)) (liLit 4))), (fFits x (fAdv (fAdv (fAdv (fAdv a (liLit 1)) (liLit 1)) (liLit 2)) (liLit 4)))]
                   (.die (72)))
                  (.req [(fFits x (fAdv (fAdv (fAdv (fAdv a (liLit 1)) (liLit 1)) (liLit 2)) (liLit 4))), (fFits x (fAdv (fAdv (fAdv (fAdv a (liLit 1)) (liLit 1)) (liLit 2)) (liLit 4)))]
                   (.ret (.agg (encAddr p.src ++ (encAddr p.dst ++ [.int .i64 (.sym (fNum x a 1)), .int .i64 (.sym p.hop), .int .i64 (.sym p.cls), .int .i64 (.sym (fNum x (fAdv (fAdv (fAdv a (liLit 1)) (liLit 1)) (liLit 2)) 4)), .int .i64 (.sym (liAndNot .i64 (fNum x (fAdv (fAdv a (liLit 1)) (liLit 1)) 2) (liLit 7))), .bool (.sym (lbEqI (liAnd .i64 (fNum x (fAdv (fAdv a (liLit 1)) (liLit 1)) 2) (liLit 1)) (liLit 1))), .bool (.lit false), .str (lsLit []), .int .i64 (.sym p.flow), .exts l true, .bool (.lit true), .str (fTake x (fAdv (fAdv (fAdv (fAdv a (liLit 1)) (liLit 1)) (liLit 2)) (liLit 4)) (fLeft x (fAdv (fAdv (fAdv (fAdv a (liLit 1)) (liLit 1)) (liLit 2)) (liLit 4))))]))) [.str b, .int .i64 (.sym a0)]))))))
              (.req []
               (.die (74))))
             (.req []
              (.die (74))))))))))))
    (.ite (fShortBy x a (fLeft x a))
     (.req [(fFits x a), (fFits x a)]
      (.die (72)))
     (.req [(fFits x a), (fFits x a)]
      (.ret (.agg (encAddr p.src ++ (encAddr p.dst ++ [.int .i64 (.sym k), .int .i64 (.sym p.hop), .int .i64 (.sym p.cls), .int .i64 (.lit 0), .int .i64 (.lit 0), .bool (.lit false), .bool (.lit false), .str (lsLit []), .int .i64 (.sym p.flow), .exts l true, .bool (.lit false), .str (fTake x a (fLeft x a))]))) [.str b, .int .i64 (.sym a0)])))))
  (.ite (lbEqI k (liLit 60))
   (.ite (lbLt (liLenX l) (liLit 4))
    (.ite (lbNot (lbEqI k (liLit 0)))
     (.ite (lbNot (lbLe (liLit 8) (fLeft x a)))
      (.req [(fFits x a)]
       (.die (72)))
      (.req [(fFits x a)]
       (.ite (fShortBy x a (liLit 1))
        (.req [(fFits x a)]
         (.die (72)))
        (.req [(fFits x a)]
         (.ite (fShortBy x (fAdv a (liLit 1)) (liLit 1))
          (.req [(fFits x (fAdv a (liLit 1)))]
           (.die (72)))
          (.req [(fFits x (fAdv a (liLit 1)))]
           (.ite (fShortBy x (fAdv (fAdv a (liLit 1)) (liLit 1)) (liAdd .i64 (liMul .i64 (fNum x (fAdv a (liLit 1)) 1) (liLit 8)) (liLit 6)))
            (.req [(fFits x (fAdv (fAdv a (liLit 1)) (liLit 1))), (lbFew (liLenX l) (liLenX (lxOne k (fTake x (fAdv (fAdv a (liLit 1)) (liLit 1)) (liAdd .i64 (liMul .i64 (fNum x (fAdv a (liLit 1)) 1) (liLit 8)) (liLit 6))))))]
             (.die (72)))
            (.req [(fFits x (fAdv (fAdv a (liLit 1)) (liLit 1))), (lbFew (liLenX l) (liLenX (lxOne k (fTake x (fAdv (fAdv a (liLit 1)) (liLit 1)) (liAdd .i64 (liMul .i64 (fNum x (fAdv a (liLit 1)) 1) (liLit 8)) (liLit 6))))))]
             (.back 0 [(0, .s (.ptr 1000000 0)), (2, .s (.ptr 2 0)), (4, .s (.ptr 4 0)), (6, .s (.int .i64 (.sym (fNum x a 1)))), (7, .s (.ptr 37 0))] [(1000000, ⟨[.str b, .int .i64 (.sym a0)], 0⟩), (2, ⟨z27n, 27⟩), (4, ⟨(encAddr p.src ++ (encAddr p.dst ++ [.int .i64 (.lit 0), .int .i64 (.sym p.hop), .int .i64 (.sym p.cls), .int .i64 (.lit 0), .int .i64 (.lit 0), .bool (.lit false), .bool (.lit false), .str (lsLit []), .int .i64 (.sym p.flow), .gs 600299 36 (.exts (lxCat l (lxOne k (fTake x (fAdv (fAdv a (liLit 1)) (liLit 1)) (liAdd .i64 (liMul .i64 (fNum x (fAdv a (liLit 1)) 1) (liLit 8)) (liLit 6)))))), .bool (.lit false), .str (lsLit [])])), 27⟩), (37, ⟨[.str x, .int .i64 (.sym (fAdv (fAdv (fAdv a (liLit 1)) (liLit 1)) (liAdd .i64 (liMul .i64 (fNum x (fAdv a (liLit 1)) 1) (liLit 8)) (liLit 6))))], 105⟩)])))))))))
     (.ite (lbNot (lbEqI (liLenX l) (liLit 0)))
      (.req []
       (.die (74)))
      (.ite (lbNot (lbLe (liLit 8) (fLeft x a)))
       (.req [(fFits x a)]
        (.die (72)))
       (.req [(fFits x a)]
        (.ite (fShortBy x a (liLit 1))
         (.req [(fFits x a)]
          (.die (72)))
         (.req [(fFits x a)]
          (.ite (fShortBy x (fAdv a (liLit 1)) (liLit 1))
           (.req [(fFits x (fAdv a (liLit 1)))]
            (.die (72)))
           (.req [(fFits x (fAdv a (liLit 1)))]
            (.ite (fShortBy x (fAdv (fAdv a (liLit 1)) (liLit 1)) (liAdd .i64 (liMul .i64 (fNum x (fAdv a (liLit 1)) 1) (liLit 8)) (liLit 6)))
             (.req [(fFits x (fAdv (fAdv a (liLit 1)) (liLit 1))), (lbFew (liLenX l) (liLenX (lxOne k (fTake x (fAdv (fAdv a (liLit 1)) (liLit 1)) (liAdd .i64 (liMul .i64 (fNum x (fAdv a (liLit 1)) 1) (liLit 8)) (liLit 6))))))]
              (.die (72)))
             (.req [(fFits x (fAdv (fAdv a (liLit 1)) (liLit 1))), (lbFew (liLenX l) (liLenX (lxOne k (fTake x (fAdv (fAdv a (liLit 1)) (liLit 1)) (liAdd .i64 (liMul .i64 (fNum x (fAdv a (liLit 1)) 1) (liLit 8)) (liLit 6))))))]
              (.back 0 [(0, .s (.ptr 1000000 0)), (2, .s (.ptr 2 0)), (4, .s (.ptr 4 0)), (6, .s (.int .i64 (.sym (fNum x a 1)))), (7, .s (.ptr 37 0))] [(1000000, ⟨[.str b, .int .i64 (.sym a0)], 0⟩), (2, ⟨z27n, 27⟩), (4, ⟨(encAddr p.src ++ (encAddr p.dst ++ [.int .i64 (.lit 0), .int .i64 (.sym p.hop), .int .i64 (.sym p.cls), .int .i64 (.lit 0), .int .i64 (.lit 0), .bool (.lit false), .bool (.lit false), .str (lsLit []), .int .i64 (.sym p.flow), .gs 600299 36 (.exts (lxCat l (lxOne k (fTake x (fAdv (fAdv a (liLit 1)) (liLit 1)) (liAdd .i64 (liMul .i64 (fNum x (fAdv a (liLit 1)) 1) (liLit 8)) (liLit 6)))))), .bool (.lit false), .str (lsLit [])])), 27⟩), (37, ⟨[.str x, .int .i64 (.sym (fAdv (fAdv (fAdv a (liLit 1)) (liLit 1)) (liAdd .i64 (liMul .i64 (fNum x (fAdv a (liLit 1)) 1) (liLit 8)) (liLit 6))))], 105⟩)])))))))))))
    (.req []
     (.die (74))))
   (.ite (lbEqI k (liLit 44))
    (.ite (lbNot (lbLe (liLit 8) (fLeft x a)))
     (.req [(fFits x a)]
      (.die (72)))
     (.req [(fFits x a)]
      (.ite (fShortBy x a (liLit 1))
       (.req [(fFits x a)]
        (.die (72)))
       (.req [(fFits x a)]
        (.ite (fShortBy x (fAdv a (liLit 1)) (liLit 1))
         (.req [(fFits x (fAdv a (liLit 1)))]
          (.die (72)))
         (.req [(fFits x (fAdv a (liLit 1)))]
          (.ite (fShortBy x (fAdv (fAdv a (liLit 1)) (liLit 1)) (liLit 2))
           (.req [(fFits x (fAdv (fAdv a (liLit 1)) (liLit 1)))]
            (.die (72)))
           (.req [(fFits x (fAdv (fAdv a (liLit 1)) (liLit 1)))]
            (.ite (lbEqI (fNum x (fAdv a (liLit 1)) 1) (liLit 0))
             (.ite (lbEqI (liAnd .i64 (fNum x (fAdv (fAdv a (liLit 1)) (liLit 1)) 2) (liLit 6)) (liLit 0))
              (.ite (lbNot (lbNot (fSpecial (fNum x a 1))))
               (.req []
                (.die (74)))
               (.ite (fShortBy x (fAdv (fAdv (fAdv a (liLit 1)) (liLit 1)) (liLit 2)) (liLit 4))
                (.req [(fFits x (fAdv (fAdv (fAdv a (liLit 1)) (liLit 1)) (liLit 2)))]
                 (.die (72)))
                (.req [(fFits x (fAdv (fAdv (fAdv a (liLit 1)) (liLit 1)) (liLit 2)))]
                 (.ite (fShortBy x (fAdv (fAdv (fAdv (fAdv a (liLit 1)) (liLit 1)) (liLit 2)) (liLit 4)) (fLeft x (fAdv (fAdv (fAdv (fAdv a (liLit 1)) (liLit 1)) (liLit 2)) (liLit 4))))
                  (.req [(fFits x (fAdv (fAdv (fAdv (fAdv a (liLit 1)) (liLit 1)) (liLit 2)) (liLit 4))), (fFits x (fAdv (fAdv (fAdv (fAdv a (liLit 1)) (liLit 1)) (liLit 2)) (liLit 4)))]
                   (.die (72)))
                  (.req [(fFits x (fAdv (fAdv (fAdv (fAdv a (liLit 1)) (liLit 1)) (liLit 2)) (liLit 4))), (fFits x (fAdv (fAdv (fAdv (fAdv a (liLit 1)) (liLit 1)) (liLit 2)) (liLit 4)))]
                   (.ret (.agg (encAddr p.src ++ (encAddr p.dst ++ [.int .i64 (.sym (fNum x a 1)), .int .i64 (.sym p.hop), .int .i64 (.sym p.cls), .int .i64 (.sym (fNum x (fAdv (fAdv (fAdv a (liLit 1)) (liLit 1)) (liLit 2)) 4)), .int .i64 (.sym (liAndNot .i64 (fNum x (fAdv (fAdv a (liLit 1)) (liLit 1)) 2) (liLit 7))), .bool (.sym (lbEqI (liAnd .i64 (fNum x (fAdv (fAdv a (liLit 1)) (liLit 1)) 2) (liLit 1)) (liLit 1))), .bool (.lit false), .str (lsLit []), .int .i64 (.sym p.flow), .exts l true, .bool (.lit true), .str (fTake x (fAdv (fAdv (fAdv (fAdv a (liLit 1)) (liLit 1)) (liLit 2)) (liLit 4)) (fLeft x (fAdv (fAdv (fAdv (fAdv a (liLit 1)) (liLit 1)) (liLit 2)) (liLit 4))))]))) [.str b, .int .i64 (.sym a0)]))))))
              (.req []
               (.die (74))))
             (.req []
              (.die (74))))))))))))
    (.ite (fShortBy x a (fLeft x a))
     (.req [(fFits x a), (fFits x a)]
      (.die (72)))
     (.req [(fFits x a), (fFits x a)]
      (.ret (.agg (encAddr p.src ++ (encAddr p.dst ++ [.int .i64 (.sym k), .int .i64 (.sym p.hop), .int .i64 (.sym p.cls), .int .i64 (.lit 0), .int .i64 (.lit 0), .bool (.lit false), .bool (.lit false), .str (lsLit []), .int .i64 (.sym p.flow), .exts l true, .bool (.lit false), .str (fTake x a (fLeft x a))]))) [.str b, .int .i64 (.sym a0)])))))))
theorem tree77m (b : List UInt8) : symMX x77 tys eqTys zn es77 Try.f77 kp77 [.str b, .int .i64 (.lit 0)] [] = tm77 b := by kernel_rfl
theorem tree77r (b : List UInt8) (a0 : Int) (p : Packet) (k : Int) (l : List Ext) (x : List UInt8) (a : Int) : symRX x77 tys eqTys zn es77 Try.f77 kp77 0 (T77v k) (T77m b a0 p l x a) = tr77 b a0 p k l x a := by kernel_rfl
end Go.Adit

namespace Go.Adit
open Go.RowKit Go.Proofs
set_option maxRecDepth 100000
set_option maxHeartbeats 4000000
/-- what a reading of version 6 comes to -/
inductive R6
  | bad (e : Int)
  | good (q : Packet)
def isExtK (k : Int) : Bool := lbEqI k (liLit 0) || lbEqI k (liLit 43) || lbEqI k (liLit 60)
def extN (x : List UInt8) (a : Int) : Int := liAdd .i64 (liMul .i64 (fNum x (fAdv a (liLit 1)) 1) (liLit 8)) (liLit 6)
def adv2 (a : Int) : Int := fAdv (fAdv a (liLit 1)) (liLit 1)
def adv4 (a : Int) : Int := fAdv (adv2 a) (liLit 2)
def adv8 (a : Int) : Int := fAdv (adv4 a) (liLit 4)
def r6cut (p : Packet) (l : List Ext) (x : List UInt8) (a : Int) : Packet :=
  ⟨p.src, p.dst, fNum x a 1, p.hop, p.cls, fNum x (adv4 a) 4, liAndNot .i64 (fNum x (adv2 a) 2) (liLit 7), lbEqI (liAnd .i64 (fNum x (adv2 a) 2) (liLit 1)) (liLit 1), false, [], p.flow, l, true, fTake x (adv8 a) (fLeft x (adv8 a))⟩
def r6all (p : Packet) (k : Int) (l : List Ext) (x : List UInt8) (a : Int) : Packet :=
  ⟨p.src, p.dst, k, p.hop, p.cls, 0, 0, false, false, [], p.flow, l, false, fTake x a (fLeft x a)⟩
def r6fin (p : Packet) (k : Int) (l : List Ext) (x : List UInt8) (a : Int) : R6 :=
  if lbEqI k (liLit 44) = true then
    if fLeft x a < 8 then .bad 72
    else if lbEqI (fNum x (fAdv a (liLit 1)) 1) (liLit 0) = false then .bad 74
    else if lbEqI (liAnd .i64 (fNum x (adv2 a) 2) (liLit 6)) (liLit 0) = false then .bad 74
    else if fSpecial (fNum x a 1) = true then .bad 74
    else .good (r6cut p l x a)
  else .good (r6all p k l x a)
def r6loop (p : Packet) (x : List UInt8) : Nat → Int → List Ext → Int → R6
  | 0, k, l, a => if isExtK k = true then .bad 74 else r6fin p k l x a
  | n + 1, k, l, a => if isExtK k = true then
      if k = 0 ∧ l ≠ [] then .bad 74
      else if fLeft x a < 8 then .bad 72
      else if fShortBy x (adv2 a) (extN x a) = true then .bad 72
      else r6loop p x n (fNum x a 1) (l ++ [⟨k, fTake x (adv2 a) (extN x a)⟩]) (fAdv (adv2 a) (extN x a))
    else r6fin p k l x a

theorem fits_iff {x : List UInt8} {a : Int} : fFits x a = true ↔ 0 ≤ a ∧ a ≤ (x.length : Int) := by
  simp only [fFits, and_t, lbLe_t]; exact Iff.rfl
theorem short_ff {x : List UInt8} {a n : Int} (h0 : 0 ≤ n) (h : n ≤ fLeft x a) : fShortBy x a n = false := by
  unfold fShortBy
  have : (lbLe 0 n && lbLe n (fLeft x a)) = true := by rw [and_t, lbLe_t, lbLe_t]; exact ⟨h0, h⟩
  rw [this]; simp
theorem short_fits {x : List UInt8} {a n : Int} (hf : fFits x a = true) (h : fShortBy x a n = false) : 0 ≤ n ∧ n ≤ fLeft x a := by
  unfold fShortBy at h
  rw [hf] at h
  have : (lbLe 0 n && lbLe n (fLeft x a)) = true := by simpa using h
  rw [and_t, lbLe_t, lbLe_t] at this
  exact this
theorem left_adv (x : List UInt8) (a n : Int) : fLeft x (fAdv a n) = fLeft x a - n := by
  show (x.length : Int) - (a + n) = (x.length : Int) - a - n
  omega
theorem fits_adv {x : List UInt8} {a n : Int} (hf : fFits x a = true) (h0 : 0 ≤ n) (h : n ≤ fLeft x a) : fFits x (fAdv a n) = true := by
  rw [fits_iff] at hf ⊢
  have : n ≤ (x.length : Int) - a := h
  show 0 ≤ a + n ∧ a + n ≤ (x.length : Int)
  omega

def pBad (O : R6) (n : Int) : Prop := O = .bad n
def pGood (O : R6) (b : List UInt8) (a0 : Int) (d : D) (l : List SC) : Prop := ∃ q, O = .good q ∧ d.norm = (D.agg (encPkt true q)).norm ∧ l.map SC.norm = ([.str b, .int .i64 (.sym a0)] : List SC).map SC.norm ∧ l ≠ []
def pBack (O : R6) (b : List UInt8) (a0 : Int) (p : Packet) (x : List UInt8) (n : Nat) (i : Nat) (v : List (Nat × D)) (m : List (Nat × Blk)) : Prop :=
  i = 0 ∧ ∃ k l a, fFits x a = true ∧ l.length = n ∧ n ≤ 4 ∧ O = r6loop p x (4 - n) k l a ∧ normT v = normT (T77v k) ∧ normM m = normM (T77m b a0 p l x a)

theorem ext77 (k : Int) (l : List Ext) (x : List UInt8) (a : Int) (hk : k = 0 ∨ k = 43 ∨ k = 60) : isExtK k = true := by
  rcases hk with rfl | rfl | rfl <;> decide

theorem r6_0 {p : Packet} {x : List UInt8} {k : Int} {l : List Ext} {a : Int} : r6loop p x 0 k l a = if isExtK k = true then .bad 74 else r6fin p k l x a := rfl
theorem r6_s {p : Packet} {x : List UInt8} {n : Nat} {k : Int} {l : List Ext} {a : Int} : r6loop p x (n + 1) k l a = if isExtK k = true then
      if k = 0 ∧ l ≠ [] then .bad 74
      else if fLeft x a < 8 then .bad 72
      else if fShortBy x (adv2 a) (extN x a) = true then .bad 72
      else r6loop p x n (fNum x a 1) (l ++ [⟨k, fTake x (adv2 a) (extN x a)⟩]) (fAdv (adv2 a) (extN x a))
    else r6fin p k l x a := rfl
theorem r6_ne {p : Packet} {x : List UInt8} {n : Nat} {k : Int} {l : List Ext} {a : Int} (h : isExtK k = false) : r6loop p x n k l a = r6fin p k l x a := by
  cases n with
  | zero => rw [r6_0, h]; rfl
  | succ n => rw [r6_s, h]; rfl
theorem leftsNo {x : List UInt8} {a : Int} (hf : fFits x a = true) : ¬ (lbLe (liLit 8) (fLeft x a) = true ∧ False) := fun h => h.2
theorem xt771 {k : Int} (hk : k = 0 ∨ k = 43 ∨ k = 60) {b : List UInt8} {a0 : Int} {p : Packet} {l : List Ext} {x : List UInt8} {a : Int} (h4 : l.length = 4) {R : D → List SC → Prop} {Rd : Int → Prop} {A : Nat → List (Nat × D) → List (Nat × Blk) → Prop} (hO : Rd 74) : (tr77 b a0 p k l x a).holds R Rd A := by
  have c4 : lbLt (liLenX l) (liLit 4) = false := by rw [lbLt_f, show liLenX l = (l.length : Int) from rfl, h4]; decide
  rcases hk with rfl | rfl | rfl <;> simp only [tr77, Tr.holds, show lbEqI (0 : Int) (liLit 0) = true from by decide, show lbEqI (43 : Int) (liLit 0) = false from by decide, show lbEqI (43 : Int) (liLit 43) = true from by decide, show lbEqI (60 : Int) (liLit 0) = false from by decide, show lbEqI (60 : Int) (liLit 43) = false from by decide, show lbEqI (60 : Int) (liLit 60) = true from by decide, show lbNot true = false from rfl, show lbNot false = true from rfl, Bool.false_eq_true, Bool.true_eq_false, false_implies, true_implies, true_and, and_true, c4] <;> exact ⟨(fun _ h => nomatch h), hO⟩
theorem xt772 {b : List UInt8} {a0 : Int} {p : Packet} {l : List Ext} {x : List UInt8} {a : Int} (h4 : l.length < 4) (hl : l ≠ []) {R : D → List SC → Prop} {Rd : Int → Prop} {A : Nat → List (Nat × D) → List (Nat × Blk) → Prop} (hO : Rd 74) : (tr77 b a0 p 0 l x a).holds R Rd A := by
  have c4 : lbLt (liLenX l) (liLit 4) = true := by rw [lbLt_t]; show (l.length : Int) < 4; omega
  have c5 : lbEqI (liLenX l) (liLit 0) = false := by
    rw [lbEqI_f]; show (l.length : Int) ≠ 0
    have := List.length_pos_iff.2 hl; omega
  simp only [tr77, Tr.holds, show lbEqI (0 : Int) (liLit 0) = true from by decide, show lbEqI (43 : Int) (liLit 0) = false from by decide, show lbEqI (43 : Int) (liLit 43) = true from by decide, show lbEqI (60 : Int) (liLit 0) = false from by decide, show lbEqI (60 : Int) (liLit 43) = false from by decide, show lbEqI (60 : Int) (liLit 60) = true from by decide, show lbNot true = false from rfl, show lbNot false = true from rfl, Bool.false_eq_true, Bool.true_eq_false, false_implies, true_implies, true_and, and_true, c4, c5]
  exact ⟨(fun _ h => nomatch h), hO⟩
theorem xt773 {k : Int} (hk : k = 0 ∨ k = 43 ∨ k = 60) {b : List UInt8} {a0 : Int} {p : Packet} {l : List Ext} {x : List UInt8} {a : Int} (h4 : l.length < 4) (h0 : k = 0 → l = []) (hf : fFits x a = true) (hl : fLeft x a < 8) {R : D → List SC → Prop} {Rd : Int → Prop} {A : Nat → List (Nat × D) → List (Nat × Blk) → Prop} (hO : Rd 72) : (tr77 b a0 p k l x a).holds R Rd A := by
  have c4 : lbLt (liLenX l) (liLit 4) = true := by rw [lbLt_t]; show (l.length : Int) < 4; omega
  have c6 : lbLe (liLit 8) (fLeft x a) = false := by rw [lbLe_f]; exact hl
  rcases hk with rfl | rfl | rfl
  · have c5 : lbEqI (liLenX l) (liLit 0) = true := by rw [h0 rfl]; decide
    simp only [tr77, Tr.holds, show lbEqI (0 : Int) (liLit 0) = true from by decide, show lbEqI (43 : Int) (liLit 0) = false from by decide, show lbEqI (43 : Int) (liLit 43) = true from by decide, show lbEqI (60 : Int) (liLit 0) = false from by decide, show lbEqI (60 : Int) (liLit 43) = false from by decide, show lbEqI (60 : Int) (liLit 60) = true from by decide, show lbNot true = false from rfl, show lbNot false = true from rfl, Bool.false_eq_true, Bool.true_eq_false, false_implies, true_implies, true_and, and_true, c4, c5, c6]; exact ⟨List.forall_mem_cons.2 ⟨hf, fun _ h => nomatch h⟩, hO⟩
  · simp only [tr77, Tr.holds, show lbEqI (0 : Int) (liLit 0) = true from by decide, show lbEqI (43 : Int) (liLit 0) = false from by decide, show lbEqI (43 : Int) (liLit 43) = true from by decide, show lbEqI (60 : Int) (liLit 0) = false from by decide, show lbEqI (60 : Int) (liLit 43) = false from by decide, show lbEqI (60 : Int) (liLit 60) = true from by decide, show lbNot true = false from rfl, show lbNot false = true from rfl, Bool.false_eq_true, Bool.true_eq_false, false_implies, true_implies, true_and, and_true, c4, c6]; exact ⟨List.forall_mem_cons.2 ⟨hf, fun _ h => nomatch h⟩, hO⟩
  · simp only [tr77, Tr.holds, show lbEqI (0 : Int) (liLit 0) = true from by decide, show lbEqI (43 : Int) (liLit 0) = false from by decide, show lbEqI (43 : Int) (liLit 43) = true from by decide, show lbEqI (60 : Int) (liLit 0) = false from by decide, show lbEqI (60 : Int) (liLit 43) = false from by decide, show lbEqI (60 : Int) (liLit 60) = true from by decide, show lbNot true = false from rfl, show lbNot false = true from rfl, Bool.false_eq_true, Bool.true_eq_false, false_implies, true_implies, true_and, and_true, c4, c6]; exact ⟨List.forall_mem_cons.2 ⟨hf, fun _ h => nomatch h⟩, hO⟩
theorem few77 {k : Int} {l : List Ext} {y : List UInt8} (h4 : l.length < 4) : lbFew (liLenX l) (liLenX (lxOne k y)) = true := by
  show decide ((l.length : Int) + 1 ≤ 34359738368) = true
  exact decide_eq_true (by omega)
/-- what is so where eight bytes are left -/
structure Eight (x : List UInt8) (a : Int) : Prop where
  f0 : fFits x a = true
  s0 : fShortBy x a (liLit 1) = false
  f1 : fFits x (fAdv a (liLit 1)) = true
  s1 : fShortBy x (fAdv a (liLit 1)) (liLit 1) = false
  f2 : fFits x (fAdv (fAdv a (liLit 1)) (liLit 1)) = true
  s2 : fShortBy x (fAdv (fAdv a (liLit 1)) (liLit 1)) (liLit 2) = false
  f4 : fFits x (fAdv (fAdv (fAdv a (liLit 1)) (liLit 1)) (liLit 2)) = true
  s4 : fShortBy x (fAdv (fAdv (fAdv a (liLit 1)) (liLit 1)) (liLit 2)) (liLit 4) = false
  f8 : fFits x (fAdv (fAdv (fAdv (fAdv a (liLit 1)) (liLit 1)) (liLit 2)) (liLit 4)) = true
  s8 : fShortBy x (fAdv (fAdv (fAdv (fAdv a (liLit 1)) (liLit 1)) (liLit 2)) (liLit 4)) (fLeft x (fAdv (fAdv (fAdv (fAdv a (liLit 1)) (liLit 1)) (liLit 2)) (liLit 4))) = false
  c6 : lbLe (liLit 8) (fLeft x a) = true
theorem eight {x : List UInt8} {a : Int} (hf : fFits x a = true) (hl : ¬ fLeft x a < 8) : Eight x a := by
  have g1 : fLeft x (fAdv a (liLit 1)) = fLeft x a - 1 := left_adv _ _ _
  have g2 : fLeft x (fAdv (fAdv a (liLit 1)) (liLit 1)) = fLeft x a - 1 - 1 := by rw [left_adv, g1]; rfl
  have g4 : fLeft x (fAdv (fAdv (fAdv a (liLit 1)) (liLit 1)) (liLit 2)) = fLeft x a - 1 - 1 - 2 := by rw [left_adv, g2]; rfl
  have g8 : fLeft x (fAdv (fAdv (fAdv (fAdv a (liLit 1)) (liLit 1)) (liLit 2)) (liLit 4)) = fLeft x a - 1 - 1 - 2 - 4 := by rw [left_adv, g4]; rfl
  have l1 : liLit 1 = (1 : Int) := rfl
  have l2 : liLit 2 = (2 : Int) := rfl
  have l4 : liLit 4 = (4 : Int) := rfl
  have f1 := fits_adv hf (n := liLit 1) (by decide) (by omega)
  have f2 := fits_adv f1 (n := liLit 1) (by decide) (by omega)
  have f4 := fits_adv f2 (n := liLit 2) (by decide) (by omega)
  have f8 := fits_adv f4 (n := liLit 4) (by decide) (by omega)
  refine ⟨hf, short_ff (by decide) (by omega), f1, short_ff (by decide) (by omega), f2, short_ff (by decide) (by omega), f4, short_ff (by decide) (by omega), f8, short_ff (by omega) (by omega), ?_⟩
  rw [lbLe_t]; show (8 : Int) ≤ _; omega
theorem xt774 {k : Int} (hk : k = 0 ∨ k = 43 ∨ k = 60) {b : List UInt8} {a0 : Int} {p : Packet} {l : List Ext} {x : List UInt8} {a : Int} (h4 : l.length < 4) (h0 : k = 0 → l = []) (h8 : Eight x a) {R : D → List SC → Prop} {Rd : Int → Prop} {A : Nat → List (Nat × D) → List (Nat × Blk) → Prop}
    (hs : fShortBy x (adv2 a) (extN x a) = true) (hO : Rd 72) : (tr77 b a0 p k l x a).holds R Rd A := by
  have c4 : lbLt (liLenX l) (liLit 4) = true := by rw [lbLt_t]; show (l.length : Int) < 4; omega
  have hs' : fShortBy x (fAdv (fAdv a (liLit 1)) (liLit 1)) (liAdd .i64 (liMul .i64 (fNum x (fAdv a (liLit 1)) 1) (liLit 8)) (liLit 6)) = true := hs
  have hf := h8.f0
  have hf1 := h8.f1
  have hf2 := h8.f2
  have hw : ∀ (k : Int) (y : List UInt8), ∀ q ∈ [fFits x (fAdv (fAdv a (liLit 1)) (liLit 1)), lbFew (liLenX l) (liLenX (lxOne k y))], q = true := fun k y => List.forall_mem_cons.2 ⟨hf2, List.forall_mem_cons.2 ⟨few77 h4, fun _ h => nomatch h⟩⟩
  have h1 : ∀ y : List UInt8, fFits x a = true → ∀ q ∈ [fFits x a], q = true := fun _ h => List.forall_mem_cons.2 ⟨h, fun _ h => nomatch h⟩
  have h2 : ∀ q ∈ [fFits x (fAdv a (liLit 1))], q = true := List.forall_mem_cons.2 ⟨hf1, fun _ h => nomatch h⟩
  rcases hk with rfl | rfl | rfl
  · have c5 : lbEqI (liLenX l) (liLit 0) = true := by rw [h0 rfl]; decide
    simp only [tr77, Tr.holds, show lbEqI (0 : Int) (liLit 0) = true from by decide, show lbEqI (43 : Int) (liLit 0) = false from by decide, show lbEqI (43 : Int) (liLit 43) = true from by decide, show lbEqI (60 : Int) (liLit 0) = false from by decide, show lbEqI (60 : Int) (liLit 43) = false from by decide, show lbEqI (60 : Int) (liLit 60) = true from by decide, show lbNot true = false from rfl, show lbNot false = true from rfl, Bool.false_eq_true, Bool.true_eq_false, false_implies, true_implies, true_and, and_true, c4, c5, h8.c6, h8.s0, h8.s1, hs']; exact ⟨h1 [] hf, h1 [] hf, h2, hw _ _, hO⟩
  · simp only [tr77, Tr.holds, show lbEqI (0 : Int) (liLit 0) = true from by decide, show lbEqI (43 : Int) (liLit 0) = false from by decide, show lbEqI (43 : Int) (liLit 43) = true from by decide, show lbEqI (60 : Int) (liLit 0) = false from by decide, show lbEqI (60 : Int) (liLit 43) = false from by decide, show lbEqI (60 : Int) (liLit 60) = true from by decide, show lbNot true = false from rfl, show lbNot false = true from rfl, Bool.false_eq_true, Bool.true_eq_false, false_implies, true_implies, true_and, and_true, c4, h8.c6, h8.s0, h8.s1, hs']; exact ⟨h1 [] hf, h1 [] hf, h2, hw _ _, hO⟩
  · simp only [tr77, Tr.holds, show lbEqI (0 : Int) (liLit 0) = true from by decide, show lbEqI (43 : Int) (liLit 0) = false from by decide, show lbEqI (43 : Int) (liLit 43) = true from by decide, show lbEqI (60 : Int) (liLit 0) = false from by decide, show lbEqI (60 : Int) (liLit 43) = false from by decide, show lbEqI (60 : Int) (liLit 60) = true from by decide, show lbNot true = false from rfl, show lbNot false = true from rfl, Bool.false_eq_true, Bool.true_eq_false, false_implies, true_implies, true_and, and_true, c4, h8.c6, h8.s0, h8.s1, hs']; exact ⟨h1 [] hf, h1 [] hf, h2, hw _ _, hO⟩
theorem xt775 {k : Int} (hk : k = 0 ∨ k = 43 ∨ k = 60) {b : List UInt8} {a0 : Int} {p : Packet} {l : List Ext} {x : List UInt8} {a : Int} (h4 : l.length < 4) (h0 : k = 0 → l = []) (h8 : Eight x a) {R : D → List SC → Prop} {Rd : Int → Prop} {A : Nat → List (Nat × D) → List (Nat × Blk) → Prop}
    (hs : fShortBy x (adv2 a) (extN x a) = false) (hA : ∀ v m, normT v = normT (T77v (fNum x a 1)) → normM m = normM (T77m b a0 p (l ++ [⟨k, fTake x (adv2 a) (extN x a)⟩]) x (fAdv (adv2 a) (extN x a))) → A 0 v m) : (tr77 b a0 p k l x a).holds R Rd A := by
  have c4 : lbLt (liLenX l) (liLit 4) = true := by rw [lbLt_t]; show (l.length : Int) < 4; omega
  have hs' : fShortBy x (fAdv (fAdv a (liLit 1)) (liLit 1)) (liAdd .i64 (liMul .i64 (fNum x (fAdv a (liLit 1)) 1) (liLit 8)) (liLit 6)) = false := hs
  have hf := h8.f0
  have hf1 := h8.f1
  have hf2 := h8.f2
  have hw : ∀ (k : Int) (y : List UInt8), ∀ q ∈ [fFits x (fAdv (fAdv a (liLit 1)) (liLit 1)), lbFew (liLenX l) (liLenX (lxOne k y))], q = true := fun k y => List.forall_mem_cons.2 ⟨hf2, List.forall_mem_cons.2 ⟨few77 h4, fun _ h => nomatch h⟩⟩
  have h1 : ∀ y : List UInt8, fFits x a = true → ∀ q ∈ [fFits x a], q = true := fun _ h => List.forall_mem_cons.2 ⟨h, fun _ h => nomatch h⟩
  have h2 : ∀ q ∈ [fFits x (fAdv a (liLit 1))], q = true := List.forall_mem_cons.2 ⟨hf1, fun _ h => nomatch h⟩
  rcases hk with rfl | rfl | rfl
  · have c5 : lbEqI (liLenX l) (liLit 0) = true := by rw [h0 rfl]; decide
    simp only [tr77, Tr.holds, show lbEqI (0 : Int) (liLit 0) = true from by decide, show lbEqI (43 : Int) (liLit 0) = false from by decide, show lbEqI (43 : Int) (liLit 43) = true from by decide, show lbEqI (60 : Int) (liLit 0) = false from by decide, show lbEqI (60 : Int) (liLit 43) = false from by decide, show lbEqI (60 : Int) (liLit 60) = true from by decide, show lbNot true = false from rfl, show lbNot false = true from rfl, Bool.false_eq_true, Bool.true_eq_false, false_implies, true_implies, true_and, and_true, c4, c5, h8.c6, h8.s0, h8.s1, hs']; exact ⟨h1 [] hf, h1 [] hf, h2, hw _ _, hA _ _ rfl rfl⟩
  · simp only [tr77, Tr.holds, show lbEqI (0 : Int) (liLit 0) = true from by decide, show lbEqI (43 : Int) (liLit 0) = false from by decide, show lbEqI (43 : Int) (liLit 43) = true from by decide, show lbEqI (60 : Int) (liLit 0) = false from by decide, show lbEqI (60 : Int) (liLit 43) = false from by decide, show lbEqI (60 : Int) (liLit 60) = true from by decide, show lbNot true = false from rfl, show lbNot false = true from rfl, Bool.false_eq_true, Bool.true_eq_false, false_implies, true_implies, true_and, and_true, c4, h8.c6, h8.s0, h8.s1, hs']; exact ⟨h1 [] hf, h1 [] hf, h2, hw _ _, hA _ _ rfl rfl⟩
  · simp only [tr77, Tr.holds, show lbEqI (0 : Int) (liLit 0) = true from by decide, show lbEqI (43 : Int) (liLit 0) = false from by decide, show lbEqI (43 : Int) (liLit 43) = true from by decide, show lbEqI (60 : Int) (liLit 0) = false from by decide, show lbEqI (60 : Int) (liLit 43) = false from by decide, show lbEqI (60 : Int) (liLit 60) = true from by decide, show lbNot true = false from rfl, show lbNot false = true from rfl, Bool.false_eq_true, Bool.true_eq_false, false_implies, true_implies, true_and, and_true, c4, h8.c6, h8.s0, h8.s1, hs']; exact ⟨h1 [] hf, h1 [] hf, h2, hw _ _, hA _ _ rfl rfl⟩
theorem fin77 {k : Int} (hk : ¬ (k = 0 ∨ k = 43 ∨ k = 60)) (b : List UInt8) (a0 : Int) (p : Packet) (l : List Ext) (x : List UInt8) (a : Int) (hf : fFits x a = true) {A : Nat → List (Nat × D) → List (Nat × Blk) → Prop} :
    (tr77 b a0 p k l x a).holds (pGood (r6fin p k l x a) b a0) (pBad (r6fin p k l x a)) A := by
  have c0 : lbEqI k (liLit 0) = false := by rw [lbEqI_f]; exact fun h => hk (.inl h)
  have c43 : lbEqI k (liLit 43) = false := by rw [lbEqI_f]; exact fun h => hk (.inr (.inl h))
  have c60 : lbEqI k (liLit 60) = false := by rw [lbEqI_f]; exact fun h => hk (.inr (.inr h))
  have one : ∀ y : Bool, y = true → ∀ q ∈ [y], q = true := fun _ h => List.forall_mem_cons.2 ⟨h, fun _ h => nomatch h⟩
  have two : ∀ y : Bool, y = true → ∀ q ∈ [y, y], q = true := fun _ h => List.forall_mem_cons.2 ⟨h, List.forall_mem_cons.2 ⟨h, fun _ h => nomatch h⟩⟩
  have nil : ∀ q ∈ ([] : List Bool), q = true := fun _ h => nomatch h
  cases c44 : lbEqI k (liLit 44) with
  | false =>
    have hO : r6fin p k l x a = .good (r6all p k l x a) := by simp only [r6fin, c44, Bool.false_eq_true, if_false]
    rw [hO]
    have hs : fShortBy x a (fLeft x a) = false := short_ff (by
      have := fits_iff.1 hf
      have e : fLeft x a = (x.length : Int) - a := rfl
      omega) (Int.le_refl _)
    simp only [tr77, Tr.holds, show lbEqI (0 : Int) (liLit 0) = true from by decide, show lbEqI (43 : Int) (liLit 0) = false from by decide, show lbEqI (43 : Int) (liLit 43) = true from by decide, show lbEqI (60 : Int) (liLit 0) = false from by decide, show lbEqI (60 : Int) (liLit 43) = false from by decide, show lbEqI (60 : Int) (liLit 60) = true from by decide, show lbNot true = false from rfl, show lbNot false = true from rfl, Bool.false_eq_true, Bool.true_eq_false, false_implies, true_implies, true_and, and_true, c0, c43, c60, c44, hs]
    exact ⟨two _ hf, _, rfl, rfl, rfl, by simp⟩
  | true =>
    by_cases hl : fLeft x a < 8
    · have hO : r6fin p k l x a = .bad 72 := by simp only [r6fin, c44, if_true, hl]
      rw [hO]
      have c6 : lbLe (liLit 8) (fLeft x a) = false := by rw [lbLe_f]; exact hl
      simp only [tr77, Tr.holds, show lbEqI (0 : Int) (liLit 0) = true from by decide, show lbEqI (43 : Int) (liLit 0) = false from by decide, show lbEqI (43 : Int) (liLit 43) = true from by decide, show lbEqI (60 : Int) (liLit 0) = false from by decide, show lbEqI (60 : Int) (liLit 43) = false from by decide, show lbEqI (60 : Int) (liLit 60) = true from by decide, show lbNot true = false from rfl, show lbNot false = true from rfl, Bool.false_eq_true, Bool.true_eq_false, false_implies, true_implies, true_and, and_true, c0, c43, c60, c44, c6]
      exact ⟨one _ hf, rfl⟩
    · have h8 := eight hf hl
      cases cz : lbEqI (fNum x (fAdv a (liLit 1)) 1) (liLit 0) with
      | false =>
        have hO : r6fin p k l x a = .bad 74 := by simp only [r6fin, c44, if_true, hl, if_false, cz]
        rw [hO]
        simp only [tr77, Tr.holds, show lbEqI (0 : Int) (liLit 0) = true from by decide, show lbEqI (43 : Int) (liLit 0) = false from by decide, show lbEqI (43 : Int) (liLit 43) = true from by decide, show lbEqI (60 : Int) (liLit 0) = false from by decide, show lbEqI (60 : Int) (liLit 43) = false from by decide, show lbEqI (60 : Int) (liLit 60) = true from by decide, show lbNot true = false from rfl, show lbNot false = true from rfl, Bool.false_eq_true, Bool.true_eq_false, false_implies, true_implies, true_and, and_true, c0, c43, c60, c44, h8.c6, h8.s0, h8.s1, h8.s2, cz]
        exact ⟨one _ hf, one _ hf, one _ h8.f1, one _ h8.f2, nil, rfl⟩
      | true =>
        cases cw : lbEqI (liAnd .i64 (fNum x (adv2 a) 2) (liLit 6)) (liLit 0) with
        | false =>
          have hO : r6fin p k l x a = .bad 74 := by simp only [r6fin, c44, if_true, hl, if_false, cz, cw, Bool.true_eq_false]
          rw [hO]
          have cw' : lbEqI (liAnd .i64 (fNum x (fAdv (fAdv a (liLit 1)) (liLit 1)) 2) (liLit 6)) (liLit 0) = false := cw
          simp only [tr77, Tr.holds, show lbEqI (0 : Int) (liLit 0) = true from by decide, show lbEqI (43 : Int) (liLit 0) = false from by decide, show lbEqI (43 : Int) (liLit 43) = true from by decide, show lbEqI (60 : Int) (liLit 0) = false from by decide, show lbEqI (60 : Int) (liLit 43) = false from by decide, show lbEqI (60 : Int) (liLit 60) = true from by decide, show lbNot true = false from rfl, show lbNot false = true from rfl, Bool.false_eq_true, Bool.true_eq_false, false_implies, true_implies, true_and, and_true, c0, c43, c60, c44, h8.c6, h8.s0, h8.s1, h8.s2, cz, cw']
          exact ⟨one _ hf, one _ hf, one _ h8.f1, one _ h8.f2, nil, rfl⟩
        | true =>
          have cw' : lbEqI (liAnd .i64 (fNum x (fAdv (fAdv a (liLit 1)) (liLit 1)) 2) (liLit 6)) (liLit 0) = true := cw
          cases cs : fSpecial (fNum x a 1) with
          | true =>
            have hO : r6fin p k l x a = .bad 74 := by simp only [r6fin, c44, if_true, hl, if_false, cz, cw, Bool.true_eq_false, cs]
            rw [hO]
            simp only [tr77, Tr.holds, show lbEqI (0 : Int) (liLit 0) = true from by decide, show lbEqI (43 : Int) (liLit 0) = false from by decide, show lbEqI (43 : Int) (liLit 43) = true from by decide, show lbEqI (60 : Int) (liLit 0) = false from by decide, show lbEqI (60 : Int) (liLit 43) = false from by decide, show lbEqI (60 : Int) (liLit 60) = true from by decide, show lbNot true = false from rfl, show lbNot false = true from rfl, Bool.false_eq_true, Bool.true_eq_false, false_implies, true_implies, true_and, and_true, c0, c43, c60, c44, h8.c6, h8.s0, h8.s1, h8.s2, cz, cw', cs]
            exact ⟨one _ hf, one _ hf, one _ h8.f1, one _ h8.f2, nil, rfl⟩
          | false =>
            have hO : r6fin p k l x a = .good (r6cut p l x a) := by simp only [r6fin, c44, if_true, hl, if_false, cz, cw, Bool.true_eq_false, cs, Bool.false_eq_true]
            rw [hO]
            simp only [tr77, Tr.holds, show lbEqI (0 : Int) (liLit 0) = true from by decide, show lbEqI (43 : Int) (liLit 0) = false from by decide, show lbEqI (43 : Int) (liLit 43) = true from by decide, show lbEqI (60 : Int) (liLit 0) = false from by decide, show lbEqI (60 : Int) (liLit 43) = false from by decide, show lbEqI (60 : Int) (liLit 60) = true from by decide, show lbNot true = false from rfl, show lbNot false = true from rfl, Bool.false_eq_true, Bool.true_eq_false, false_implies, true_implies, true_and, and_true, c0, c43, c60, c44, h8.c6, h8.s0, h8.s1, h8.s2, cz, cw', cs, h8.s4, h8.s8]
            exact ⟨one _ hf, one _ hf, one _ h8.f1, one _ h8.f2, one _ h8.f4, two _ h8.f8, _, rfl, rfl, rfl, by simp⟩
theorem round77 (b : List UInt8) (a0 : Int) (p : Packet) (k : Int) (l : List Ext) (x : List UInt8) (a : Int) (hf : fFits x a = true) (hl : l.length ≤ 4) :
    (tr77 b a0 p k l x a).holds (pGood (r6loop p x (4 - l.length) k l a) b a0) (pBad (r6loop p x (4 - l.length) k l a)) (pBack (r6loop p x (4 - l.length) k l a) b a0 p x (l.length + 1)) := by
  by_cases hk : k = 0 ∨ k = 43 ∨ k = 60
  · have hx := ext77 k l x a hk
    by_cases h4 : l.length = 4
    · exact xt771 hk h4 (by rw [h4]; show r6loop p x 0 k l a = _; rw [r6_0, if_pos hx])
    · have h4' : l.length < 4 := by omega
      have es : 4 - l.length = (4 - (l.length + 1)) + 1 := by omega
      rw [es, r6_s, if_pos hx]
      by_cases h0 : k = 0 ∧ l ≠ []
      · rw [if_pos h0]
        obtain ⟨rfl, hne⟩ := h0
        exact xt772 h4' hne rfl
      · rw [if_neg h0]
        have h0' : k = 0 → l = [] := fun e => Classical.byContradiction fun hne => h0 ⟨e, hne⟩
        by_cases h8 : fLeft x a < 8
        · rw [if_pos h8]; exact xt773 hk h4' h0' hf h8 rfl
        · rw [if_neg h8]
          have h8' := eight hf h8
          cases hs : fShortBy x (adv2 a) (extN x a) with
          | true => rw [if_pos rfl]; exact xt774 hk h4' h0' h8' hs rfl
          | false =>
            rw [if_neg (by decide)]
            refine xt775 hk h4' h0' h8' hs fun v m hv hm => ⟨rfl, _, _, _, ?_, ?_, by omega, rfl, hv, hm⟩
            · have := short_fits (x := x) (a := adv2 a) h8'.f2 hs
              exact fits_adv h8'.f2 this.1 this.2
            · simp
  · have hx : isExtK k = false := by
      cases e : isExtK k with
      | false => rfl
      | true =>
        exfalso; apply hk
        unfold isExtK at e
        simp only [Bool.or_eq_true, lbEqI_t] at e
        rcases e with (e | e) | e
        · exact .inl e
        · exact .inr (.inl e)
        · exact .inr (.inr e)
    rw [r6_ne hx]
    exact fin77 hk b a0 p l x a hf
end Go.Adit

namespace Go.Adit
open Go.RowKit Go.Proofs
set_option maxRecDepth 100000
set_option maxHeartbeats 4000000
def r6hd (b : List UInt8) : Packet := ⟨fAddrAt b (liLit 8) 16, fAddrAt b (liLit 24) 16, 0, fNum b (liLit 7) 1, liAnd .i64 (liShr .i64 (fNum b (liLit 0) 4) (liLit 20)) (liLit 255), 0, 0, false, false, [], liAnd .i64 (fNum b (liLit 0) 4) (liLit 1048575), [], false, []⟩
def r6x (b : List UInt8) : List UInt8 := fTake b (liLit 40) (fNum b (liLit 4) 2)
def r6of (b : List UInt8) : R6 := if fShortBy b (liLit 40) (fNum b (liLit 4) 2) = true then .bad 72 else r6loop (r6hd b) (r6x b) 4 (fNum b (liLit 6) 1) [] 0
def r6end (b : List UInt8) : Int := fAdv (liLit 40) (fNum b (liLit 4) 2)

structure G77s (b : List UInt8) where
  k : Int
  l : List Ext
  a : Int
  hf : fFits (r6x b) a = true
  hl : l.length ≤ 4
  hO : r6loop (r6hd b) (r6x b) (4 - l.length) k l a = r6of b
def G77 (b : List UInt8) : Nat → Type
  | 0 => G77s b
  | _ => Empty
def T77 (b : List UInt8) : (i : Nat) → G77 b i → List (Nat × D) × List (Nat × Blk)
  | 0, g => let g : G77s b := g; (T77v g.k, T77m b (r6end b) (r6hd b) g.l (r6x b) g.a)
  | _ + 1, g => nomatch g
def M77 (b : List UInt8) : (i : Nat) → G77 b i → Nat
  | 0, g => let g : G77s b := g; 4 - g.l.length
  | _ + 1, g => nomatch g

theorem main77 (b : List UInt8) (h : 40 ≤ b.length) : (tm77 b).holds (fun _ _ => False) (pBad (r6of b)) (Arr (T77 b) fun _ _ => True) := by
  have hlen : fLeft b 0 = (b.length : Int) := by show (b.length : Int) - 0 = _; omega
  have fit : ∀ n : Nat, n ≤ 40 → fFits b (liLit (n : Int)) = true := fun n hn => fits_iff.2 ⟨by show (0 : Int) ≤ (n : Int); omega, by show (n : Int) ≤ _; omega⟩
  have sh : ∀ n k : Nat, n + k ≤ 40 → fShortBy b (liLit (n : Int)) (liLit (k : Int)) = false := fun n k hn => short_ff (by show (0 : Int) ≤ (k : Int); omega) (by show (k : Int) ≤ (b.length : Int) - (n : Int); omega)
  have one : ∀ y : Bool, y = true → ∀ q ∈ [y], q = true := fun _ h => List.forall_mem_cons.2 ⟨h, fun _ h => nomatch h⟩
  have s1 : fShortBy b (liLit 0) (liLit 4) = false := sh 0 4 (by omega)
  have s2 : fShortBy b (liLit 4) (liLit 2) = false := sh 4 2 (by omega)
  have s3 : fShortBy b (liLit 6) (liLit 1) = false := sh 6 1 (by omega)
  have s4 : fShortBy b (liLit 7) (liLit 1) = false := sh 7 1 (by omega)
  have s5 : fShortBy b (liLit 8) (liLit 16) = false := sh 8 16 (by omega)
  have s6 : fShortBy b (liLit 24) (liLit 16) = false := sh 24 16 (by omega)
  have f0 : fFits b (liLit 0) = true := fit 0 (by omega)
  have f4 : fFits b (liLit 4) = true := fit 4 (by omega)
  have f6 : fFits b (liLit 6) = true := fit 6 (by omega)
  have f7 : fFits b (liLit 7) = true := fit 7 (by omega)
  have f8 : fFits b (liLit 8) = true := fit 8 (by omega)
  have f24 : fFits b (liLit 24) = true := fit 24 (by omega)
  have f40 : fFits b (liLit 40) = true := fit 40 (by omega)
  cases hs : fShortBy b (liLit 40) (fNum b (liLit 4) 2) with
  | true =>
    simp only [tm77, Tr.holds, s1, s2, s3, s4, s5, s6, hs, Bool.false_eq_true, Bool.true_eq_false, false_implies, true_implies, true_and, and_true]
    exact ⟨one _ f0, one _ f4, one _ f6, one _ f7, one _ f8, one _ f24, one _ f40, by show r6of b = _; rw [r6of, if_pos hs]⟩
  | false =>
    simp only [tm77, Tr.holds, s1, s2, s3, s4, s5, s6, hs, Bool.false_eq_true, Bool.true_eq_false, false_implies, true_implies, true_and, and_true]
    exact ⟨one _ f0, one _ f4, one _ f6, one _ f7, one _ f8, one _ f24, one _ f40, (⟨fNum b (liLit 6) 1, [], 0, fits_iff.2 ⟨Int.le_refl _, by omega⟩, by simp, by
      show r6loop _ _ 4 _ _ _ = _
      rw [r6of, if_neg (by rw [hs]; decide)]⟩ : G77s b), trivial, rfl, rfl⟩

theorem rnd77 (b : List UInt8) (i : Nat) (g : G77 b i) : (symRX x77 tys eqTys zn es77 Try.f77 kp77 i (T77 b i g).1 (T77 b i g).2).holds (pGood (r6of b) b (r6end b)) (pBad (r6of b)) (Arr (T77 b) fun j g' => M77 b j g' < M77 b i g) := by
  match i, g with
  | 0, g =>
    change G77s b at g
    show (symRX x77 tys eqTys zn es77 Try.f77 kp77 0 (T77v g.k) (T77m b (r6end b) (r6hd b) g.l (r6x b) g.a)).holds _ _ _
    rw [tree77r]
    refine holds_and (round77 b (r6end b) (r6hd b) g.k g.l (r6x b) g.a g.hf g.hl) ?_ ?_ ?_
    · rw [g.hO]; exact fun _ _ h => h
    · rw [g.hO]; exact fun _ h => h
    · rintro i v m ⟨rfl, k, l, a, hf, hl, h4, hO, hv, hm⟩
      refine ⟨(⟨k, l, a, hf, by omega, by rw [← g.hO, hO, hl]⟩ : G77s b), ?_, hv, hm⟩
      show 4 - l.length < 4 - g.l.length
      omega
  | _ + 1, g => exact nomatch g

theorem all77 : ∀ e ∈ es77, EntryOK Try.prog e := by
  intro e he
  unfold es77 at he
  rcases List.mem_cons.1 he with rfl | he; exact ok115
  rcases List.mem_cons.1 he with rfl | he; exact ok116
  rcases List.mem_cons.1 he with rfl | he; exact ok117
  rcases List.mem_cons.1 he with rfl | he; exact ok118
  rcases List.mem_cons.1 he with rfl | he; exact ok75
  rcases List.mem_singleton.1 he with rfl; exact ok64 con64
theorem same77 : ∀ f, x77.same f = true → ConSame Try.prog f := by
  intro f h
  have : f = 119 := Nat.eq_of_beq_eq_true h
  subst this; exact con119

theorem con77 (b : List UInt8) (h : 40 ≤ b.length) (q : Packet) (hq : r6of b = .good q) : ConM Try.prog 77 [.str b, .int .i64 (.lit 0)] [] (.agg (encPkt true q)) [.str b, .int .i64 (.sym (r6end b))] := by
  refine conM_loopX (x := x77) tryBaseN all77 same77 kp77 Try.func77 (by kernel_rfl) (by kernel_rfl) (by kernel_rfl) (by kernel_rfl) (by kernel_rfl) rfl rfl (T77 b) (M77 b) ?_ fun i g _ => ?_
  · rw [tree77m]
    refine holds_and (main77 b h) (fun _ _ h => h.elim) (fun n e => ?_) fun _ _ _ h => h
    unfold pBad at e; rw [hq] at e; cases e
  · refine holds_and (rnd77 b i g) ?_ (fun n e => ?_) fun _ _ _ h => h
    · rintro d l ⟨q', e, h1, h2, h3⟩
      rw [hq] at e; cases e
      exact ⟨h1, h2, h3⟩
    · unfold pBad at e; rw [hq] at e; cases e
theorem die77 (b : List UInt8) (h : 40 ≤ b.length) (e : Int) (he : r6of b = .bad e) : ConMDie Try.prog 77 [.str b, .int .i64 (.lit 0)] [] e := by
  refine conMDie_loopX (x := x77) tryBaseN all77 same77 kp77 Try.func77 (by kernel_rfl) (by kernel_rfl) (by kernel_rfl) (by kernel_rfl) (by kernel_rfl) rfl rfl (T77 b) (M77 b) ?_ fun i g _ => ?_
  · rw [tree77m]
    refine holds_and (main77 b h) (fun _ _ h => h.elim) (fun n e => ?_) fun _ _ _ h => h
    unfold pBad at e; rw [he] at e; cases e; rfl
  · refine holds_and (rnd77 b i g) ?_ (fun n e => ?_) fun _ _ _ h => h
    · rintro d l ⟨q', e, h1, h2, h3⟩
      rw [he] at e; cases e
    · unfold pBad at e; rw [he] at e; cases e; rfl
end Go.Adit
