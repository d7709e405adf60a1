/- Quarantine: conditions of Check. -/
import Derived.Test.YthcpekjcnokonaaQ8
import Derived.Test.YthcpekjcnokonaaAm27
import Derived.KernelRfl
set_option maxRecDepth 100000
set_option linter.unusedVariables false
namespace Go.AM.Q
open Go.Proofs
--BEGIN
/-- A map from strings to numbers. -/
def mapSI (pm : List (ByteArray × Int)) : List (AV × AV) := pm.map fun p => (.s p.1, .i .i64 p.2)
def iCk (a b c : Int) (l : List Held) (j : Nat) (pm : List (ByteArray × Int)) : St := { t := [(1, .ptr 0 0), (2, .b false), (3, .mp 1), (19, .sl (rowH l)), (20, .i .i64 (rowH l).length), (21, .i .i64 j)], σ := [(0, .cells [.i .i64 a, .i .i64 b, .i .i64 c, .sl (rowH l)]), (1, .map 54 (mapSI pm))], n := 2, m := 70 }
def vCk (a b c : Int) (l : List Held) (I : St → Prop) (v : AV) : Prop :=
 (∃ x : Bool, ((ACalls Try.prog 25 [(AV.ag [(AV.i IntKind.i64 a), (AV.i IntKind.i64 b), (AV.i IntKind.i64 c), (AV.sl (Q.rowH l))])] ([] : List (Prod Nat Blk)) (AV.b x) ([] : List (Prod Nat Blk))) ∧
 (brP (!x) (((AV.b Bool.false) = (v : AV)) ∧
 (([] : List (Prod Nat Blk)) = (([] : List (Prod Nat Blk)) : Heap))) (brP (decide ((b : Int) < (((List.length (Q.rowH l)) : Nat) : Int))) (((AV.b Bool.false) = (v : AV)) ∧
 (([] : List (Prod Nat Blk)) = (([] : List (Prod Nat Blk)) : Heap))) ((AtL (hd Try.f13 (5 : Nat)) (hd Try.f13 (5 : Nat))) ∧
 (I { t := [(1, (AV.ptr 0 0)), (2, (AV.b Bool.false)), (3, (AV.mp 1)), (19, (AV.sl (Q.rowH l))), (20, (AV.i IntKind.i64 (((List.length (Q.rowH l)) : Nat) : Int))), (21, (AV.i IntKind.i64 (0 : Int)))], σ := [(0, (Blk.cells [(AV.i IntKind.i64 a), (AV.i IntKind.i64 b), (AV.i IntKind.i64 c), (AV.sl (Q.rowH l))])), (1, (Blk.map 54 ([] : List (Prod AV AV))))], n := 2, m := 70 : St}))))))
theorem vCk_eq (a b c : Int) (l : List Held) (I : St → Prop) (v : AV) : vCk a b c l I v = (evF Try.prog T0 Try.f13 [] (atK 0 (hd Try.f13 5) [0,13] [1,2,3,19,20,21] I) [qAV a b c (rowH l)] [] [] v []) := by kernel_rfl

def vCkL (a b c : Int) (l : List Held) (j : Nat) (pm : List (ByteArray × Int)) (I : St → Prop) (v : AV) : Prop :=
 (brP (decide ((((j : Nat) : Int) : Int) < (((List.length (Q.rowH l)) : Nat) : Int))) ((((0 : Int) : Int) ≤ ((j : Nat) : Int)) ∧
 (((((j : Nat) : Int) : Int) < (((List.length (Q.rowH l)) : Nat) : Int)) ∧
 (∃ x : ByteArray, (∃ x1 : ByteArray, (∃ n : Int, (∃ x2 : ByteArray, (∃ n1 : Int, (∃ n2 : Int, (∃ n3 : Int, (∃ n4 : Int, ((((Q.rowH l))[(Int.toNat ((j : Nat) : Int))]? = ((Option.some [(AV.s x), (AV.s x1), (AV.i IntKind.i64 n), (AV.s x2), (AV.i IntKind.i64 n1), (AV.i IntKind.i64 n2), (AV.i IntKind.i64 n3), (AV.i IntKind.i64 n4)]) : (Option (List AV)))) ∧
 (((List.length (([(AV.s x)] ++ ([(AV.s x1)] ++ ([] : List AV) : (List AV)) : (List AV)) ++ ([(AV.i IntKind.i64 n)] ++ ([(AV.s x2)] ++ ([(AV.i IntKind.i64 n1)] ++ ([(AV.i IntKind.i64 n2)] ++ ([(AV.i IntKind.i64 n3)] ++ ([(AV.i IntKind.i64 n4)] ++ ([] : List AV) : (List AV)) : (List AV)) : (List AV)) : (List AV)) : (List AV)) : (List AV)) : (List AV))) = (8 : Nat)) ∧
 ((∀ (p : (Prod AV AV)), ((List.Mem p (Q.mapSI pm)) → ((keyOk (AV.s x2) (p).1) = (Bool.true : Bool)))) ∧
 (∃ n5 : Int, (((Option.getD (mget (AV.s x2) (Q.mapSI pm)) (AV.i IntKind.i64 (0 : Int))) = ((AV.i IntKind.i64 n5) : AV)) ∧
 ((∀ (p : (Prod AV AV)), ((List.Mem p (Q.mapSI pm)) → ((keyOk (AV.s x2) (p).1) = (Bool.true : Bool)))) ∧
 (∃ x3 : Bool, ((ACalls Try.prog 28 [(AV.ag [(AV.i IntKind.i64 a), (AV.i IntKind.i64 b), (AV.i IntKind.i64 c), (AV.sl (Q.rowH l))]), (AV.ag [(AV.s x), (AV.s x1), (AV.i IntKind.i64 n), (AV.s x2), (AV.i IntKind.i64 n1), (AV.i IntKind.i64 n2), (AV.i IntKind.i64 n3), (AV.i IntKind.i64 n4)])] ([] : List (Prod Nat Blk)) (AV.b x3) ([] : List (Prod Nat Blk))) ∧
 (brP (!x3) ((Bool.true = (Bool.true : Bool)) ∧
 (((AV.b Bool.false) = (v : AV)) ∧
 (([] : List (Prod Nat Blk)) = (([] : List (Prod Nat Blk)) : Heap)))) ((∀ (p : (Prod AV AV)), ((List.Mem p (mset (AV.s x2) (AV.i IntKind.i64 (IntKind.wrap IntKind.i64 (n5 + (1 : Int) : Int))) (Q.mapSI pm))) → ((keyOk (AV.s x2) (p).1) = (Bool.true : Bool)))) ∧
 (∃ n6 : Int, (((Option.getD (mget (AV.s x2) (mset (AV.s x2) (AV.i IntKind.i64 (IntKind.wrap IntKind.i64 (n5 + (1 : Int) : Int))) (Q.mapSI pm))) (AV.i IntKind.i64 (0 : Int))) = ((AV.i IntKind.i64 n6) : AV)) ∧
 (brP (decide ((a : Int) < n6)) ((Bool.true = (Bool.true : Bool)) ∧
 (((AV.b Bool.false) = (v : AV)) ∧
 (([] : List (Prod Nat Blk)) = (([] : List (Prod Nat Blk)) : Heap)))) (brP (decide (((0 : Int) : Int) < ((j : Nat) : Int))) ((((0 : Int) : Int) ≤ (IntKind.wrap IntKind.i64 (((j : Nat) : Int) - (1 : Int) : Int))) ∧
 ((((IntKind.wrap IntKind.i64 (((j : Nat) : Int) - (1 : Int) : Int)) : Int) < (((List.length (Q.rowH l)) : Nat) : Int)) ∧
 (∃ x4 : ByteArray, (∃ x5 : ByteArray, (∃ n7 : Int, (∃ x6 : ByteArray, (∃ n8 : Int, (∃ n9 : Int, (∃ n10 : Int, (∃ n11 : Int, ((((Q.rowH l))[(Int.toNat (IntKind.wrap IntKind.i64 (((j : Nat) : Int) - (1 : Int) : Int)))]? = ((Option.some [(AV.s x4), (AV.s x5), (AV.i IntKind.i64 n7), (AV.s x6), (AV.i IntKind.i64 n8), (AV.i IntKind.i64 n9), (AV.i IntKind.i64 n10), (AV.i IntKind.i64 n11)]) : (Option (List AV)))) ∧
 (((List.length (([(AV.s x4)] ++ ([(AV.s x5)] ++ ([] : List AV) : (List AV)) : (List AV)) ++ ([(AV.i IntKind.i64 n7)] ++ ([(AV.s x6)] ++ ([(AV.i IntKind.i64 n8)] ++ ([(AV.i IntKind.i64 n9)] ++ ([(AV.i IntKind.i64 n10)] ++ ([(AV.i IntKind.i64 n11)] ++ ([] : List AV) : (List AV)) : (List AV)) : (List AV)) : (List AV)) : (List AV)) : (List AV)) : (List AV))) = (8 : Nat)) ∧
 (∃ n12 : Int, ((ACalls Try.prog 29 [(AV.ag [(AV.s x4), (AV.s x5), (AV.i IntKind.i64 n7), (AV.s x6), (AV.i IntKind.i64 n8), (AV.i IntKind.i64 n9), (AV.i IntKind.i64 n10), (AV.i IntKind.i64 n11)]), (AV.ag [(AV.s x), (AV.s x1), (AV.i IntKind.i64 n), (AV.s x2), (AV.i IntKind.i64 n1), (AV.i IntKind.i64 n2), (AV.i IntKind.i64 n3), (AV.i IntKind.i64 n4)])] ([] : List (Prod Nat Blk)) (AV.i IntKind.i64 n12) ([] : List (Prod Nat Blk))) ∧
 (brP (decide (((0 : Int) : Int) ≤ n12)) ((Bool.true = (Bool.true : Bool)) ∧
 (((AV.b Bool.false) = (v : AV)) ∧
 (([] : List (Prod Nat Blk)) = (([] : List (Prod Nat Blk)) : Heap)))) ((((0 : Int) : Int) ≤ (IntKind.wrap IntKind.i64 (((j : Nat) : Int) - (1 : Int) : Int))) ∧
 ((((IntKind.wrap IntKind.i64 (((j : Nat) : Int) - (1 : Int) : Int)) : Int) < (((List.length (Q.rowH l)) : Nat) : Int)) ∧
 (∃ x7 : ByteArray, (∃ x8 : ByteArray, (∃ n13 : Int, (∃ x9 : ByteArray, (∃ n14 : Int, (∃ n15 : Int, (∃ n16 : Int, (∃ n17 : Int, ((((Q.rowH l))[(Int.toNat (IntKind.wrap IntKind.i64 (((j : Nat) : Int) - (1 : Int) : Int)))]? = ((Option.some [(AV.s x7), (AV.s x8), (AV.i IntKind.i64 n13), (AV.s x9), (AV.i IntKind.i64 n14), (AV.i IntKind.i64 n15), (AV.i IntKind.i64 n16), (AV.i IntKind.i64 n17)]) : (Option (List AV)))) ∧
 (((List.length (([(AV.s x7)] ++ ([(AV.s x8)] ++ ([] : List AV) : (List AV)) : (List AV)) ++ ([(AV.i IntKind.i64 n13)] ++ ([(AV.s x9)] ++ ([(AV.i IntKind.i64 n14)] ++ ([(AV.i IntKind.i64 n15)] ++ ([(AV.i IntKind.i64 n16)] ++ ([(AV.i IntKind.i64 n17)] ++ ([] : List AV) : (List AV)) : (List AV)) : (List AV)) : (List AV)) : (List AV)) : (List AV)) : (List AV))) = (8 : Nat)) ∧
 (∃ x10 : Bool, ((ACalls Try.prog 30 [(AV.ag [(AV.s x7), (AV.s x8), (AV.i IntKind.i64 n13), (AV.s x9), (AV.i IntKind.i64 n14), (AV.i IntKind.i64 n15), (AV.i IntKind.i64 n16), (AV.i IntKind.i64 n17)]), (AV.ag [(AV.s x), (AV.s x1), (AV.i IntKind.i64 n), (AV.s x2), (AV.i IntKind.i64 n1), (AV.i IntKind.i64 n2), (AV.i IntKind.i64 n3), (AV.i IntKind.i64 n4)])] ([] : List (Prod Nat Blk)) (AV.b x10) ([] : List (Prod Nat Blk))) ∧
 ((Bool.true = (Bool.true : Bool)) ∧
 (brP x10 (((AV.b Bool.false) = (v : AV)) ∧
 (([] : List (Prod Nat Blk)) = (([] : List (Prod Nat Blk)) : Heap))) ((AtL (hd Try.f13 (5 : Nat)) (hd Try.f13 (5 : Nat))) ∧
 (I { t := [(1, (AV.ptr 0 0)), (2, (AV.b Bool.false)), (3, (AV.mp 1)), (19, (AV.sl (Q.rowH l))), (20, (AV.i IntKind.i64 (((List.length (Q.rowH l)) : Nat) : Int))), (21, (AV.i IntKind.i64 (IntKind.wrap IntKind.i64 (((j : Nat) : Int) + (1 : Int) : Int))))], σ := [(0, (Blk.cells [(AV.i IntKind.i64 a), (AV.i IntKind.i64 b), (AV.i IntKind.i64 c), (AV.sl (Q.rowH l))])), (1, (Blk.map 54 (mset (AV.s x2) (AV.i IntKind.i64 (IntKind.wrap IntKind.i64 (n5 + (1 : Int) : Int))) (Q.mapSI pm))))], n := 2, m := 70 : St}))))))))))))))))))))))))))))))))) ((Bool.true = (Bool.true : Bool)) ∧
 ((AtL (hd Try.f13 (5 : Nat)) (hd Try.f13 (5 : Nat))) ∧
 (I { t := [(1, (AV.ptr 0 0)), (2, (AV.b Bool.false)), (3, (AV.mp 1)), (19, (AV.sl (Q.rowH l))), (20, (AV.i IntKind.i64 (((List.length (Q.rowH l)) : Nat) : Int))), (21, (AV.i IntKind.i64 (IntKind.wrap IntKind.i64 (((j : Nat) : Int) + (1 : Int) : Int))))], σ := [(0, (Blk.cells [(AV.i IntKind.i64 a), (AV.i IntKind.i64 b), (AV.i IntKind.i64 c), (AV.sl (Q.rowH l))])), (1, (Blk.map 54 (mset (AV.s x2) (AV.i IntKind.i64 (IntKind.wrap IntKind.i64 (n5 + (1 : Int) : Int))) (Q.mapSI pm))))], n := 2, m := 70 : St}))))))))))))))))))))))))))) (((AV.b Bool.true) = (v : AV)) ∧
 (([] : List (Prod Nat Blk)) = (([] : List (Prod Nat Blk)) : Heap))))
theorem vCkL_eq (a b c : Int) (l : List Held) (j : Nat) (pm : List (ByteArray × Int)) (I : St → Prop) (v : AV) : vCkL a b c l j pm I v = (evL Try.prog T0 Try.f13 [] (atK 0 (hd Try.f13 5) [0,1] [1,2,3,19,20,21] I) 5 (iCk a b c l j pm) 0 [] v []) := by kernel_rfl

end Go.AM.Q
