/- Quarantine: conditions of the loop of the reference's Renew. -/
import Derived.Test.YthcpekjcnokonaaQL
import Derived.KernelRfl
set_option maxRecDepth 100000
set_option linter.unusedVariables false
namespace Go.AM.Q
open Go.Proofs
--BEGIN
def iRe (a b c : Int) (l : List Held) (x : Held) (i k : Nat) : St := { t := [(5, .ptr 0 0), (10, .ptr 1 0), (12, .i .i64 i), (13, .ptr 2 0), (14, .i .i64 k)], σ := [(0, .cells [.i .i64 a, .i .i64 b, .i .i64 c, .sl (rowH l)]), (1, .cells [.i .i64 0, .i .i64 0, .i .i64 0, .sl []]), (2, .cells x.cells)], n := 3, m := 82 }
def vReL (a b c : Int) (l : List Held) (x : Held) (i k : Nat) (I : Nat → St → Prop) (v : AV) : Prop :=
 (brP (decide ((((k : Nat) : Int) : Int) < (((List.length (Q.rowH l)) : Nat) : Int))) (brP (!(decide (((k : Nat) : Int) = (((i : Nat) : Int) : Int)))) ((((0 : Int) : Int) ≤ ((k : Nat) : Int)) ∧
 (((((k : Nat) : Int) : Int) < (((List.length (Q.rowH l)) : Nat) : Int)) ∧
 (∃ x1 : ByteArray, (∃ x2 : ByteArray, (∃ n : Int, (∃ x3 : ByteArray, (∃ n1 : Int, (∃ n2 : Int, (∃ n3 : Int, (∃ n4 : Int, ((((Q.rowH l))[(Int.toNat ((k : Nat) : Int))]? = ((Option.some [(AV.s x1), (AV.s x2), (AV.i IntKind.i64 n), (AV.s x3), (AV.i IntKind.i64 n1), (AV.i IntKind.i64 n2), (AV.i IntKind.i64 n3), (AV.i IntKind.i64 n4)]) : (Option (List AV)))) ∧
 (((List.length (([(AV.s x1)] ++ ([(AV.s x2)] ++ ([] : List AV) : (List AV)) : (List AV)) ++ ([(AV.i IntKind.i64 n)] ++ ([(AV.s x3)] ++ ([(AV.i IntKind.i64 n1)] ++ ([(AV.i IntKind.i64 n2)] ++ ([(AV.i IntKind.i64 n3)] ++ ([(AV.i IntKind.i64 n4)] ++ ([] : List AV) : (List AV)) : (List AV)) : (List AV)) : (List AV)) : (List AV)) : (List AV)) : (List AV))) = (8 : Nat)) ∧
 (∃ x4 : Bool, ((ACalls Try.prog 38 [(AV.ag [(AV.s x1), (AV.s x2), (AV.i IntKind.i64 n), (AV.s x3), (AV.i IntKind.i64 n1), (AV.i IntKind.i64 n2), (AV.i IntKind.i64 n3), (AV.i IntKind.i64 n4)]), (AV.ag [(AV.s (x).1), (AV.s (x).2), (AV.i IntKind.i64 (x).3), (AV.s (x).4), (AV.i IntKind.i64 (x).5), (AV.i IntKind.i64 (x).6), (AV.i IntKind.i64 (x).7), (AV.i IntKind.i64 (x).8)])] ([] : List (Prod Nat Blk)) (AV.b x4) ([] : List (Prod Nat Blk))) ∧
 ((Bool.true = (Bool.true : Bool)) ∧
 (brP x4 (((AV.tup [(AV.ag [(AV.i IntKind.i64 (0 : Int)), (AV.i IntKind.i64 (0 : Int)), (AV.i IntKind.i64 (0 : Int)), (AV.sl ([] : List (List AV)))]), (AV.i IntKind.i64 (19 : Int))]) = (v : AV)) ∧
 (([] : List (Prod Nat Blk)) = (([] : List (Prod Nat Blk)) : Heap))) ((AtL (hd Try.f57 15) (hd Try.f57 15)) ∧
 (I 15 { t := [(5, (AV.ptr 0 0)), (10, (AV.ptr 1 0)), (12, (AV.i IntKind.i64 ((i : Nat) : Int))), (13, (AV.ptr 2 0)), (14, (AV.i IntKind.i64 (IntKind.wrap IntKind.i64 (((k : Nat) : Int) + (1 : Int) : Int))))], σ := [(0, (Blk.cells [(AV.i IntKind.i64 a), (AV.i IntKind.i64 b), (AV.i IntKind.i64 c), (AV.sl (Q.rowH l))])), (1, (Blk.cells [(AV.i IntKind.i64 (0 : Int)), (AV.i IntKind.i64 (0 : Int)), (AV.i IntKind.i64 (0 : Int)), (AV.sl ([] : List (List AV)))])), (2, (Blk.cells [(AV.s (x).1), (AV.s (x).2), (AV.i IntKind.i64 (x).3), (AV.s (x).4), (AV.i IntKind.i64 (x).5), (AV.i IntKind.i64 (x).6), (AV.i IntKind.i64 (x).7), (AV.i IntKind.i64 (x).8)]))], n := 3, m := 82 : St})))))))))))))))))) ((Bool.true = (Bool.true : Bool)) ∧
 ((AtL (hd Try.f57 15) (hd Try.f57 15)) ∧
 (I 15 { t := [(5, (AV.ptr 0 0)), (10, (AV.ptr 1 0)), (12, (AV.i IntKind.i64 ((i : Nat) : Int))), (13, (AV.ptr 2 0)), (14, (AV.i IntKind.i64 (IntKind.wrap IntKind.i64 (((k : Nat) : Int) + (1 : Int) : Int))))], σ := [(0, (Blk.cells [(AV.i IntKind.i64 a), (AV.i IntKind.i64 b), (AV.i IntKind.i64 c), (AV.sl (Q.rowH l))])), (1, (Blk.cells [(AV.i IntKind.i64 (0 : Int)), (AV.i IntKind.i64 (0 : Int)), (AV.i IntKind.i64 (0 : Int)), (AV.sl ([] : List (List AV)))])), (2, (Blk.cells [(AV.s (x).1), (AV.s (x).2), (AV.i IntKind.i64 (x).3), (AV.s (x).4), (AV.i IntKind.i64 (x).5), (AV.i IntKind.i64 (x).6), (AV.i IntKind.i64 (x).7), (AV.i IntKind.i64 (x).8)]))], n := 3, m := 82 : St})))) (∃ n : Int, (∃ n1 : Int, (∃ n2 : Int, (∃ xs : (List (List AV)), ((ACalls Try.prog 77 [(AV.ag [(AV.i IntKind.i64 a), (AV.i IntKind.i64 b), (AV.i IntKind.i64 c), (AV.sl (Q.rowH l))]), (AV.i IntKind.i64 ((i : Nat) : Int)), (AV.ag [(AV.s (x).1), (AV.s (x).2), (AV.i IntKind.i64 (x).3), (AV.s (x).4), (AV.i IntKind.i64 (x).5), (AV.i IntKind.i64 (x).6), (AV.i IntKind.i64 (x).7), (AV.i IntKind.i64 (x).8)])] ([] : List (Prod Nat Blk)) (AV.ag ([(AV.i IntKind.i64 n)] ++ ([(AV.i IntKind.i64 n1)] ++ ([(AV.i IntKind.i64 n2)] ++ ([(AV.sl xs)] ++ ([] : List AV) : (List AV)) : (List AV)) : (List AV)) : (List AV))) ([] : List (Prod Nat Blk))) ∧
 (((AV.tup [(AV.ag [(AV.i IntKind.i64 n), (AV.i IntKind.i64 n1), (AV.i IntKind.i64 n2), (AV.sl xs)]), (AV.i IntKind.i64 (0 : Int))]) = (v : AV)) ∧
 (([] : List (Prod Nat Blk)) = (([] : List (Prod Nat Blk)) : Heap)))))))))
theorem vReL_eq (a b c : Int) (l : List Held) (x : Held) (i k : Nat) (I : Nat → St → Prop) (v : AV) : vReL a b c l x i k I v = (evL Try.prog TQ Try.f57 [] (cutA 0 Try.f57 cRe I) 15 (iRe a b c l x i k) 0 [] v []) := by kernel_rfl

end Go.AM.Q
