/- Quarantine: conditions of comparing lists and quarantines. -/
import Derived.Test.YthcpekjcnokonaaQ5
import Derived.KernelRfl
set_option maxRecDepth 100000
set_option linter.unusedVariables false
namespace Go.AM.Q
open Go.Proofs
--BEGIN
def rowH (l : List Held) : List (List AV) := l.map Held.cells
def iSL (l m : List Held) (j : Nat) : St := { t := [(0, .sl (rowH l)), (1, .sl (rowH m)), (4, .b false), (5, .i .i64 j)], σ := [], n := 0, m := 26 }
def vSL (l m : List Held) (I : St → Prop) (v : AV) : Prop :=
 (brP (!(decide ((((List.length (Q.rowH l)) : Nat) : Int) = ((((List.length (Q.rowH m)) : Nat) : Int) : Int)))) (((AV.b Bool.false) = (v : AV)) ∧
 (([] : List (Prod Nat Blk)) = (([] : List (Prod Nat Blk)) : Heap))) ((AtL (hd Try.f27 (4 : Nat)) (hd Try.f27 (4 : Nat))) ∧
 (I { t := [(0, (AV.sl (Q.rowH l))), (1, (AV.sl (Q.rowH m))), (4, (AV.b Bool.false)), (5, (AV.i IntKind.i64 (0 : Int)))], σ := ([] : List (Prod Nat Blk)), n := 0, m := 26 : St})))
theorem vSL_eq (l m : List Held) (I : St → Prop) (v : AV) : vSL l m I v = (evF Try.prog T0 Try.f27 [] (atK 0 (hd Try.f27 4) [] [0,1,4,5] I) [.sl (rowH l), .sl (rowH m)] [] [] v []) := by kernel_rfl

def vSLL (l m : List Held) (j : Nat) (I : St → Prop) (v : AV) : Prop :=
 (brP (decide ((((j : Nat) : Int) : Int) < (((List.length (Q.rowH l)) : Nat) : Int))) ((((0 : Int) : Int) ≤ ((j : Nat) : Int)) ∧
 (((((j : Nat) : Int) : Int) < (((List.length (Q.rowH l)) : Nat) : Int)) ∧
 (∃ x : ByteArray, (∃ x1 : ByteArray, (∃ n : Int, (∃ x2 : ByteArray, (∃ n1 : Int, (∃ n2 : Int, (∃ n3 : Int, (∃ n4 : Int, ((((Q.rowH l))[(Int.toNat ((j : Nat) : Int))]? = ((Option.some [(AV.s x), (AV.s x1), (AV.i IntKind.i64 n), (AV.s x2), (AV.i IntKind.i64 n1), (AV.i IntKind.i64 n2), (AV.i IntKind.i64 n3), (AV.i IntKind.i64 n4)]) : (Option (List AV)))) ∧
 (((List.length (([(AV.s x)] ++ ([(AV.s x1)] ++ ([] : List AV) : (List AV)) : (List AV)) ++ ([(AV.i IntKind.i64 n)] ++ ([(AV.s x2)] ++ ([(AV.i IntKind.i64 n1)] ++ ([(AV.i IntKind.i64 n2)] ++ ([(AV.i IntKind.i64 n3)] ++ ([(AV.i IntKind.i64 n4)] ++ ([] : List AV) : (List AV)) : (List AV)) : (List AV)) : (List AV)) : (List AV)) : (List AV)) : (List AV))) = (8 : Nat)) ∧
 ((((0 : Int) : Int) ≤ ((j : Nat) : Int)) ∧
 (((((j : Nat) : Int) : Int) < (((List.length (Q.rowH m)) : Nat) : Int)) ∧
 (∃ x3 : ByteArray, (∃ x4 : ByteArray, (∃ n5 : Int, (∃ x5 : ByteArray, (∃ n6 : Int, (∃ n7 : Int, (∃ n8 : Int, (∃ n9 : Int, ((((Q.rowH m))[(Int.toNat ((j : Nat) : Int))]? = ((Option.some [(AV.s x3), (AV.s x4), (AV.i IntKind.i64 n5), (AV.s x5), (AV.i IntKind.i64 n6), (AV.i IntKind.i64 n7), (AV.i IntKind.i64 n8), (AV.i IntKind.i64 n9)]) : (Option (List AV)))) ∧
 (((List.length (([(AV.s x3)] ++ ([(AV.s x4)] ++ ([] : List AV) : (List AV)) : (List AV)) ++ ([(AV.i IntKind.i64 n5)] ++ ([(AV.s x5)] ++ ([(AV.i IntKind.i64 n6)] ++ ([(AV.i IntKind.i64 n7)] ++ ([(AV.i IntKind.i64 n8)] ++ ([(AV.i IntKind.i64 n9)] ++ ([] : List AV) : (List AV)) : (List AV)) : (List AV)) : (List AV)) : (List AV)) : (List AV)) : (List AV))) = (8 : Nat)) ∧
 ((Bool.true = (Bool.true : Bool)) ∧
 (brP (!(Bool.and (Bool.and (strEq x x3) (Bool.and (strEq x1 x4) Bool.true)) (Bool.and (decide (n = (n5 : Int))) (Bool.and (strEq x2 x5) (Bool.and (decide (n1 = (n6 : Int))) (Bool.and (decide (n2 = (n7 : Int))) (Bool.and (decide (n3 = (n8 : Int))) (Bool.and (decide (n4 = (n9 : Int))) Bool.true)))))))) (((AV.b Bool.false) = (v : AV)) ∧
 (([] : List (Prod Nat Blk)) = (([] : List (Prod Nat Blk)) : Heap))) ((AtL (hd Try.f27 (4 : Nat)) (hd Try.f27 (4 : Nat))) ∧
 (I { t := [(0, (AV.sl (Q.rowH l))), (1, (AV.sl (Q.rowH m))), (4, (AV.b Bool.false)), (5, (AV.i IntKind.i64 (IntKind.wrap IntKind.i64 (((j : Nat) : Int) + (1 : Int) : Int))))], σ := ([] : List (Prod Nat Blk)), n := 0, m := 26 : St})))))))))))))))))))))))))))) (((AV.b Bool.true) = (v : AV)) ∧
 (([] : List (Prod Nat Blk)) = (([] : List (Prod Nat Blk)) : Heap))))
theorem vSLL_eq (l m : List Held) (j : Nat) (I : St → Prop) (v : AV) : vSLL l m j I v = (evL Try.prog T0 Try.f27 [] (atK 0 (hd Try.f27 4) [] [0,1,4,5] I) 4 (iSL l m j) 0 [] v []) := by kernel_rfl

def vSameQ (a b c a' b' c' : Int) (l m : List Held) (v : AV) : Prop :=
 (brP (decide (a = (a' : Int))) (brP (decide (b = (b' : Int))) (brP (decide (c = (c' : Int))) (∃ x : Bool, ((ACalls Try.prog 27 [(AV.sl (Q.rowH l)), (AV.sl (Q.rowH m))] ([] : List (Prod Nat Blk)) (AV.b x) ([] : List (Prod Nat Blk))) ∧
 (((AV.b x) = (v : AV)) ∧
 (([] : List (Prod Nat Blk)) = (([] : List (Prod Nat Blk)) : Heap))))) (((AV.b Bool.false) = (v : AV)) ∧
 (([] : List (Prod Nat Blk)) = (([] : List (Prod Nat Blk)) : Heap)))) (((AV.b Bool.false) = (v : AV)) ∧
 (([] : List (Prod Nat Blk)) = (([] : List (Prod Nat Blk)) : Heap)))) (((AV.b Bool.false) = (v : AV)) ∧
 (([] : List (Prod Nat Blk)) = (([] : List (Prod Nat Blk)) : Heap))))
theorem vSameQ_eq (a b c a' b' c' : Int) (l m : List Held) (v : AV) : vSameQ a b c a' b' c' l m v = (evF Try.prog T0 Try.f12 [] noK [qAV a b c (rowH l), qAV a' b' c' (rowH m)] [] [] v []) := by kernel_rfl

end Go.AM.Q
