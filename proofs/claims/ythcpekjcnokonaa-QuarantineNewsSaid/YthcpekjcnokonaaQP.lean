/- Quarantine: conditions of the law's sanity check and of its first law. -/
import Derived.Test.YthcpekjcnokonaaQO
import Derived.KernelRfl
set_option maxRecDepth 100000
set_option linter.unusedVariables false
namespace Go.AM.Q
open Go.Proofs
--BEGIN
def vKnown (v : AV) : Prop :=
 (∃ n : Int, (∃ n1 : Int, (∃ n2 : Int, (∃ xs : (List (List AV)), (∃ n3 : Int, ((ACalls Try.prog 10 [(AV.i IntKind.i64 (1 : Int)), (AV.i IntKind.i64 (2 : Int)), (AV.i IntKind.i64 (10 : Int))] ([] : List (Prod Nat Blk)) (AV.tup [(AV.ag ([(AV.i IntKind.i64 n)] ++ ([(AV.i IntKind.i64 n1)] ++ ([(AV.i IntKind.i64 n2)] ++ ([(AV.sl xs)] ++ ([] : List AV) : (List AV)) : (List AV)) : (List AV)) : (List AV))), (AV.i IntKind.i64 n3)]) ([] : List (Prod Nat Blk))) ∧
 (∃ n4 : Int, (∃ n5 : Int, (∃ n6 : Int, (∃ xs1 : (List (List AV)), (∃ n7 : Int, ((ACalls Try.prog 24 [(AV.ag [(AV.i IntKind.i64 n), (AV.i IntKind.i64 n1), (AV.i IntKind.i64 n2), (AV.sl xs)]), (AV.ag [(AV.s (ByteArray.mk (Array.mk [(112 : UInt8)]))), (AV.s (ByteArray.mk (Array.mk [(116 : UInt8)])))]), (AV.i IntKind.i64 (0 : Int)), (AV.s (ByteArray.mk (Array.mk [(97 : UInt8), (110 : UInt8), (110 : UInt8)]))), (AV.i IntKind.i64 (5 : Int)), (AV.i IntKind.i64 (15 : Int))] ([] : List (Prod Nat Blk)) (AV.tup [(AV.ag ([(AV.i IntKind.i64 n4)] ++ ([(AV.i IntKind.i64 n5)] ++ ([(AV.i IntKind.i64 n6)] ++ ([(AV.sl xs1)] ++ ([] : List AV) : (List AV)) : (List AV)) : (List AV)) : (List AV))), (AV.i IntKind.i64 n7)]) ([] : List (Prod Nat Blk))) ∧
 (∃ n8 : Int, (∃ n9 : Int, (∃ n10 : Int, (∃ xs2 : (List (List AV)), (∃ n11 : Int, ((ACalls Try.prog 24 [(AV.ag [(AV.i IntKind.i64 n4), (AV.i IntKind.i64 n5), (AV.i IntKind.i64 n6), (AV.sl xs1)]), (AV.ag [(AV.s (ByteArray.mk (Array.mk [(112 : UInt8)]))), (AV.s (ByteArray.mk (Array.mk [(116 : UInt8)])))]), (AV.i IntKind.i64 (1 : Int)), (AV.s (ByteArray.mk (Array.mk [(97 : UInt8), (110 : UInt8), (110 : UInt8)]))), (AV.i IntKind.i64 (5 : Int)), (AV.i IntKind.i64 (15 : Int))] ([] : List (Prod Nat Blk)) (AV.tup [(AV.ag ([(AV.i IntKind.i64 n8)] ++ ([(AV.i IntKind.i64 n9)] ++ ([(AV.i IntKind.i64 n10)] ++ ([(AV.sl xs2)] ++ ([] : List AV) : (List AV)) : (List AV)) : (List AV)) : (List AV))), (AV.i IntKind.i64 n11)]) ([] : List (Prod Nat Blk))) ∧
 (∃ n12 : Int, (∃ n13 : Int, (∃ n14 : Int, (∃ xs3 : (List (List AV)), (∃ n15 : Int, ((ACalls Try.prog 31 [(AV.ag [(AV.i IntKind.i64 n4), (AV.i IntKind.i64 n5), (AV.i IntKind.i64 n6), (AV.sl xs1)]), (AV.ag [(AV.s (ByteArray.mk (Array.mk [(112 : UInt8)]))), (AV.s (ByteArray.mk (Array.mk [(116 : UInt8)])))]), (AV.i IntKind.i64 (0 : Int)), (AV.i IntKind.i64 (14 : Int)), (AV.i IntKind.i64 (24 : Int))] ([] : List (Prod Nat Blk)) (AV.tup [(AV.ag ([(AV.i IntKind.i64 n12)] ++ ([(AV.i IntKind.i64 n13)] ++ ([(AV.i IntKind.i64 n14)] ++ ([(AV.sl xs3)] ++ ([] : List AV) : (List AV)) : (List AV)) : (List AV)) : (List AV))), (AV.i IntKind.i64 n15)]) ([] : List (Prod Nat Blk))) ∧
 (∃ n16 : Int, (∃ n17 : Int, (∃ n18 : Int, (∃ xs4 : (List (List AV)), (∃ n19 : Int, ((ACalls Try.prog 31 [(AV.ag [(AV.i IntKind.i64 n12), (AV.i IntKind.i64 n13), (AV.i IntKind.i64 n14), (AV.sl xs3)]), (AV.ag [(AV.s (ByteArray.mk (Array.mk [(112 : UInt8)]))), (AV.s (ByteArray.mk (Array.mk [(116 : UInt8)])))]), (AV.i IntKind.i64 (0 : Int)), (AV.i IntKind.i64 (14 : Int)), (AV.i IntKind.i64 (25 : Int))] ([] : List (Prod Nat Blk)) (AV.tup [(AV.ag ([(AV.i IntKind.i64 n16)] ++ ([(AV.i IntKind.i64 n17)] ++ ([(AV.i IntKind.i64 n18)] ++ ([(AV.sl xs4)] ++ ([] : List AV) : (List AV)) : (List AV)) : (List AV)) : (List AV))), (AV.i IntKind.i64 n19)]) ([] : List (Prod Nat Blk))) ∧
 (∃ n20 : Int, (∃ n21 : Int, (∃ n22 : Int, (∃ xs5 : (List (List AV)), (∃ xs6 : (List (List AV)), (∃ n23 : Int, ((ACalls Try.prog 18 [(AV.ag [(AV.i IntKind.i64 n12), (AV.i IntKind.i64 n13), (AV.i IntKind.i64 n14), (AV.sl xs3)]), (AV.i IntKind.i64 (24 : Int))] ([] : List (Prod Nat Blk)) (AV.tup [(AV.ag ([(AV.i IntKind.i64 n20)] ++ ([(AV.i IntKind.i64 n21)] ++ ([(AV.i IntKind.i64 n22)] ++ ([(AV.sl xs5)] ++ ([] : List AV) : (List AV)) : (List AV)) : (List AV)) : (List AV))), (AV.sl xs6), (AV.i IntKind.i64 n23)]) ([] : List (Prod Nat Blk))) ∧
 (brP (decide (n3 = ((0 : Int) : Int))) (brP (decide (n7 = ((0 : Int) : Int))) (brP (decide (n11 = ((43 : Int) : Int))) (brP (decide (n15 = ((0 : Int) : Int))) (brP (decide (n19 = ((45 : Int) : Int))) (brP (decide (n23 = ((0 : Int) : Int))) (brP (decide ((((List.length xs6) : Nat) : Int) = ((1 : Int) : Int))) ((((0 : Int) : Int) ≤ (0 : Int)) ∧
 ((((0 : Int) : Int) < (((List.length xs6) : Nat) : Int)) ∧
 (∃ x : ByteArray, (∃ x1 : ByteArray, (∃ n24 : Int, (∃ x2 : ByteArray, (∃ n25 : Int, (∃ n26 : Int, (∃ n27 : Int, (∃ n28 : Int, (((xs6)[0]? = ((Option.some [(AV.s x), (AV.s x1), (AV.i IntKind.i64 n24), (AV.s x2), (AV.i IntKind.i64 n25), (AV.i IntKind.i64 n26), (AV.i IntKind.i64 n27), (AV.i IntKind.i64 n28)]) : (Option (List AV)))) ∧
 (((List.length (([(AV.s x)] ++ ([(AV.s x1)] ++ ([] : List AV) : (List AV)) : (List AV)) ++ ([(AV.i IntKind.i64 n24)] ++ ([(AV.s x2)] ++ ([(AV.i IntKind.i64 n25)] ++ ([(AV.i IntKind.i64 n26)] ++ ([(AV.i IntKind.i64 n27)] ++ ([(AV.i IntKind.i64 n28)] ++ ([] : List AV) : (List AV)) : (List AV)) : (List AV)) : (List AV)) : (List AV)) : (List AV)) : (List AV))) = (8 : Nat)) ∧
 (((AV.b (decide (n26 = ((24 : Int) : Int)))) = (v : AV)) ∧
 (([] : List (Prod Nat Blk)) = (([] : List (Prod Nat Blk)) : Heap))))))))))))))) (((AV.b Bool.false) = (v : AV)) ∧
 (([] : List (Prod Nat Blk)) = (([] : List (Prod Nat Blk)) : Heap)))) (((AV.b Bool.false) = (v : AV)) ∧
 (([] : List (Prod Nat Blk)) = (([] : List (Prod Nat Blk)) : Heap)))) (((AV.b Bool.false) = (v : AV)) ∧
 (([] : List (Prod Nat Blk)) = (([] : List (Prod Nat Blk)) : Heap)))) (((AV.b Bool.false) = (v : AV)) ∧
 (([] : List (Prod Nat Blk)) = (([] : List (Prod Nat Blk)) : Heap)))) (((AV.b Bool.false) = (v : AV)) ∧
 (([] : List (Prod Nat Blk)) = (([] : List (Prod Nat Blk)) : Heap)))) (((AV.b Bool.false) = (v : AV)) ∧
 (([] : List (Prod Nat Blk)) = (([] : List (Prod Nat Blk)) : Heap)))) (((AV.b Bool.false) = (v : AV)) ∧
 (([] : List (Prod Nat Blk)) = (([] : List (Prod Nat Blk)) : Heap)))))))))))))))))))))))))))))))))))))))))
theorem vKnown_eq (v : AV) : vKnown v = (evF Try.prog TQ Try.f14 [] noK [] [] [] v []) := by kernel_rfl

def vNews (a b c : Int) (v : AV) : Prop :=
 (∃ n : Int, (∃ n1 : Int, (∃ n2 : Int, (∃ xs : (List (List AV)), (∃ n3 : Int, ((ACalls Try.prog 10 [(AV.i IntKind.i64 a), (AV.i IntKind.i64 b), (AV.i IntKind.i64 c)] ([] : List (Prod Nat Blk)) (AV.tup [(AV.ag ([(AV.i IntKind.i64 n)] ++ ([(AV.i IntKind.i64 n1)] ++ ([(AV.i IntKind.i64 n2)] ++ ([(AV.sl xs)] ++ ([] : List AV) : (List AV)) : (List AV)) : (List AV)) : (List AV))), (AV.i IntKind.i64 n3)]) ([] : List (Prod Nat Blk))) ∧
 (∃ n4 : Int, (∃ n5 : Int, (∃ n6 : Int, (∃ xs1 : (List (List AV)), (∃ n7 : Int, ((ACalls Try.prog 11 [(AV.i IntKind.i64 a), (AV.i IntKind.i64 b), (AV.i IntKind.i64 c)] ([] : List (Prod Nat Blk)) (AV.tup [(AV.ag ([(AV.i IntKind.i64 n4)] ++ ([(AV.i IntKind.i64 n5)] ++ ([(AV.i IntKind.i64 n6)] ++ ([(AV.sl xs1)] ++ ([] : List AV) : (List AV)) : (List AV)) : (List AV)) : (List AV))), (AV.i IntKind.i64 n7)]) ([] : List (Prod Nat Blk))) ∧
 (brP (decide (n3 = (n7 : Int))) (∃ x : Bool, ((ACalls Try.prog 12 [(AV.ag [(AV.i IntKind.i64 n), (AV.i IntKind.i64 n1), (AV.i IntKind.i64 n2), (AV.sl xs)]), (AV.ag [(AV.i IntKind.i64 n4), (AV.i IntKind.i64 n5), (AV.i IntKind.i64 n6), (AV.sl xs1)])] ([] : List (Prod Nat Blk)) (AV.b x) ([] : List (Prod Nat Blk))) ∧
 (brP x (∃ x1 : Bool, ((ACalls Try.prog 13 [(AV.ag [(AV.i IntKind.i64 n), (AV.i IntKind.i64 n1), (AV.i IntKind.i64 n2), (AV.sl xs)])] ([] : List (Prod Nat Blk)) (AV.b x1) ([] : List (Prod Nat Blk))) ∧
 (brP (x1 == (decide (n3 = ((0 : Int) : Int)))) (∃ x2 : Bool, ((ACalls Try.prog 14 ([] : List AV) ([] : List (Prod Nat Blk)) (AV.b x2) ([] : List (Prod Nat Blk))) ∧
 (((AV.b x2) = (v : AV)) ∧
 (([] : List (Prod Nat Blk)) = (([] : List (Prod Nat Blk)) : Heap))))) (((AV.b Bool.false) = (v : AV)) ∧
 (([] : List (Prod Nat Blk)) = (([] : List (Prod Nat Blk)) : Heap)))))) (((AV.b Bool.false) = (v : AV)) ∧
 (([] : List (Prod Nat Blk)) = (([] : List (Prod Nat Blk)) : Heap)))))) (((AV.b Bool.false) = (v : AV)) ∧
 (([] : List (Prod Nat Blk)) = (([] : List (Prod Nat Blk)) : Heap))))))))))))))))
theorem vNews_eq (a b c : Int) (v : AV) : vNews a b c v = (evF Try.prog TQ Try.f3 [] noK [.i .i64 a, .i .i64 b, .i .i64 c] [] [] v []) := by kernel_rfl

end Go.AM.Q
