/- Quarantine: conditions of more functions, laid by program. -/
import Derived.Test.YthcpekjcnokonaaQ2
import Derived.KernelRfl
set_option maxRecDepth 100000
set_option linter.unusedVariables false
namespace Go.AM.Q
open Go.Proofs
--BEGIN
def vNaNs (x : ByteArray) (v : AV) : Prop :=
 (((AV.b (!(strEq x x))) = (v : AV)) ∧
 (([] : List (Prod Nat Blk)) = (([] : List (Prod Nat Blk)) : Heap)))
theorem vNaNs_eq (x : ByteArray) (v : AV) : vNaNs x v = (evF Try.prog T0 Try.f74 [] noK [.s x] [] [] v []) := by kernel_rfl

def vNaNi (x : Int) (v : AV) : Prop :=
 (((AV.b (!(decide (x = (x : Int))))) = (v : AV)) ∧
 (([] : List (Prod Nat Blk)) = (([] : List (Prod Nat Blk)) : Heap)))
theorem vNaNi_eq (x : Int) (v : AV) : vNaNi x v = (evF Try.prog T0 Try.f75 [] noK [.i .i64 x] [] [] v []) := by kernel_rfl

def vCmpS (x y : ByteArray) (v : AV) : Prop :=
 (∃ x1 : Bool, ((ACalls Try.prog 74 [(AV.s x)] ([] : List (Prod Nat Blk)) (AV.b x1) ([] : List (Prod Nat Blk))) ∧
 (∃ x2 : Bool, ((ACalls Try.prog 74 [(AV.s y)] ([] : List (Prod Nat Blk)) (AV.b x2) ([] : List (Prod Nat Blk))) ∧
 (brP x1 (brP x2 (((AV.i IntKind.i64 (0 : Int)) = (v : AV)) ∧
 (([] : List (Prod Nat Blk)) = (([] : List (Prod Nat Blk)) : Heap))) (((AV.i IntKind.i64 (-1 : Int)) = (v : AV)) ∧
 (([] : List (Prod Nat Blk)) = (([] : List (Prod Nat Blk)) : Heap)))) (brP x2 (((AV.i IntKind.i64 (1 : Int)) = (v : AV)) ∧
 (([] : List (Prod Nat Blk)) = (([] : List (Prod Nat Blk)) : Heap))) (brP (Op.bytesLess (ByteArray.toList x) (ByteArray.toList y)) (((AV.i IntKind.i64 (-1 : Int)) = (v : AV)) ∧
 (([] : List (Prod Nat Blk)) = (([] : List (Prod Nat Blk)) : Heap))) (brP (!(Bool.or (Op.bytesLess (ByteArray.toList x) (ByteArray.toList y)) (strEq x y))) (((AV.i IntKind.i64 (1 : Int)) = (v : AV)) ∧
 (([] : List (Prod Nat Blk)) = (([] : List (Prod Nat Blk)) : Heap))) (((AV.i IntKind.i64 (0 : Int)) = (v : AV)) ∧
 (([] : List (Prod Nat Blk)) = (([] : List (Prod Nat Blk)) : Heap)))))))))))
theorem vCmpS_eq (x y : ByteArray) (v : AV) : vCmpS x y v = (evF Try.prog T0 Try.f52 [] noK [.s x, .s y] [] [] v []) := by kernel_rfl

def vCmpI (x y : Int) (v : AV) : Prop :=
 (∃ x1 : Bool, ((ACalls Try.prog 75 [(AV.i IntKind.i64 x)] ([] : List (Prod Nat Blk)) (AV.b x1) ([] : List (Prod Nat Blk))) ∧
 (∃ x2 : Bool, ((ACalls Try.prog 75 [(AV.i IntKind.i64 y)] ([] : List (Prod Nat Blk)) (AV.b x2) ([] : List (Prod Nat Blk))) ∧
 (brP x1 (brP x2 (((AV.i IntKind.i64 (0 : Int)) = (v : AV)) ∧
 (([] : List (Prod Nat Blk)) = (([] : List (Prod Nat Blk)) : Heap))) (((AV.i IntKind.i64 (-1 : Int)) = (v : AV)) ∧
 (([] : List (Prod Nat Blk)) = (([] : List (Prod Nat Blk)) : Heap)))) (brP x2 (((AV.i IntKind.i64 (1 : Int)) = (v : AV)) ∧
 (([] : List (Prod Nat Blk)) = (([] : List (Prod Nat Blk)) : Heap))) (brP (decide ((x : Int) < y)) (((AV.i IntKind.i64 (-1 : Int)) = (v : AV)) ∧
 (([] : List (Prod Nat Blk)) = (([] : List (Prod Nat Blk)) : Heap))) (brP (decide ((y : Int) < x)) (((AV.i IntKind.i64 (1 : Int)) = (v : AV)) ∧
 (([] : List (Prod Nat Blk)) = (([] : List (Prod Nat Blk)) : Heap))) (((AV.i IntKind.i64 (0 : Int)) = (v : AV)) ∧
 (([] : List (Prod Nat Blk)) = (([] : List (Prod Nat Blk)) : Heap)))))))))))
theorem vCmpI_eq (x y : Int) (v : AV) : vCmpI x y v = (evF Try.prog T0 Try.f53 [] noK [.i .i64 x, .i .i64 y] [] [] v []) := by kernel_rfl

def vHist (x y : ByteArray) (a b : Int) (v : AV) : Prop :=
 (∃ x1 : Bool, ((ACalls Try.prog 79 [(AV.ag [(AV.s x), (AV.s y)])] ([] : List (Prod Nat Blk)) (AV.b x1) ([] : List (Prod Nat Blk))) ∧
 (brP (!x1) (((AV.tup [(AV.ag [(AV.s (ByteArray.mk (Array.mk ([] : List UInt8)))), (AV.s (ByteArray.mk (Array.mk ([] : List UInt8)))), (AV.i IntKind.i64 (0 : Int)), (AV.i IntKind.i64 (0 : Int)), (AV.i IntKind.i64 (0 : Int)), (AV.i IntKind.i64 (0 : Int)), (AV.i IntKind.i64 (0 : Int)), (AV.sl ([] : List (List AV)))]), (AV.i IntKind.i64 (1 : Int))]) = (v : AV)) ∧
 (([] : List (Prod Nat Blk)) = (([] : List (Prod Nat Blk)) : Heap))) (brP (decide ((a : Int) < (0 : Int))) (((AV.tup [(AV.ag [(AV.s (ByteArray.mk (Array.mk ([] : List UInt8)))), (AV.s (ByteArray.mk (Array.mk ([] : List UInt8)))), (AV.i IntKind.i64 (0 : Int)), (AV.i IntKind.i64 (0 : Int)), (AV.i IntKind.i64 (0 : Int)), (AV.i IntKind.i64 (0 : Int)), (AV.i IntKind.i64 (0 : Int)), (AV.sl ([] : List (List AV)))]), (AV.i IntKind.i64 (3 : Int))]) = (v : AV)) ∧
 (([] : List (Prod Nat Blk)) = (([] : List (Prod Nat Blk)) : Heap))) (brP (decide (((63 : Int) : Int) < a)) (((AV.tup [(AV.ag [(AV.s (ByteArray.mk (Array.mk ([] : List UInt8)))), (AV.s (ByteArray.mk (Array.mk ([] : List UInt8)))), (AV.i IntKind.i64 (0 : Int)), (AV.i IntKind.i64 (0 : Int)), (AV.i IntKind.i64 (0 : Int)), (AV.i IntKind.i64 (0 : Int)), (AV.i IntKind.i64 (0 : Int)), (AV.sl ([] : List (List AV)))]), (AV.i IntKind.i64 (3 : Int))]) = (v : AV)) ∧
 (([] : List (Prod Nat Blk)) = (([] : List (Prod Nat Blk)) : Heap))) (brP (decide ((b : Int) < (2 : Int))) (((AV.tup [(AV.ag [(AV.s (ByteArray.mk (Array.mk ([] : List UInt8)))), (AV.s (ByteArray.mk (Array.mk ([] : List UInt8)))), (AV.i IntKind.i64 (0 : Int)), (AV.i IntKind.i64 (0 : Int)), (AV.i IntKind.i64 (0 : Int)), (AV.i IntKind.i64 (0 : Int)), (AV.i IntKind.i64 (0 : Int)), (AV.sl ([] : List (List AV)))]), (AV.i IntKind.i64 (3 : Int))]) = (v : AV)) ∧
 (([] : List (Prod Nat Blk)) = (([] : List (Prod Nat Blk)) : Heap))) (brP (decide (((16 : Int) : Int) < b)) (((AV.tup [(AV.ag [(AV.s (ByteArray.mk (Array.mk ([] : List UInt8)))), (AV.s (ByteArray.mk (Array.mk ([] : List UInt8)))), (AV.i IntKind.i64 (0 : Int)), (AV.i IntKind.i64 (0 : Int)), (AV.i IntKind.i64 (0 : Int)), (AV.i IntKind.i64 (0 : Int)), (AV.i IntKind.i64 (0 : Int)), (AV.sl ([] : List (List AV)))]), (AV.i IntKind.i64 (3 : Int))]) = (v : AV)) ∧
 (([] : List (Prod Nat Blk)) = (([] : List (Prod Nat Blk)) : Heap))) (((AV.tup [(AV.ag [(AV.s x), (AV.s y), (AV.i IntKind.i64 a), (AV.i IntKind.i64 b), (AV.i IntKind.i64 (0 : Int)), (AV.i IntKind.i64 (0 : Int)), (AV.i IntKind.i64 (0 : Int)), (AV.sl ([] : List (List AV)))]), (AV.i IntKind.i64 (0 : Int))]) = (v : AV)) ∧
 (([] : List (Prod Nat Blk)) = (([] : List (Prod Nat Blk)) : Heap))))))))))
theorem vHist_eq (x y : ByteArray) (a b : Int) (v : AV) : vHist x y a b v = (evF Try.prog T0 Try.f71 [] noK [.ag [.s x, .s y], .i .i64 a, .i .i64 b] [] [] v []) := by kernel_rfl

def vWho (x y z : ByteArray) (a f u r c : Int) (v : AV) : Prop :=
 (∃ x1 : ByteArray, (∃ x2 : ByteArray, (∃ n : Int, (∃ n1 : Int, (∃ n2 : Int, (∃ n3 : Int, (∃ n4 : Int, (∃ xs : (List (List AV)), (∃ n5 : Int, ((ACalls Try.prog 71 [(AV.ag [(AV.s x), (AV.s y)]), (AV.i IntKind.i64 a), (AV.i IntKind.i64 (2 : Int))] ([] : List (Prod Nat Blk)) (AV.tup [(AV.ag (([(AV.s x1)] ++ ([(AV.s x2)] ++ ([] : List AV) : (List AV)) : (List AV)) ++ ([(AV.i IntKind.i64 n)] ++ ([(AV.i IntKind.i64 n1)] ++ ([(AV.i IntKind.i64 n2)] ++ ([(AV.i IntKind.i64 n3)] ++ ([(AV.i IntKind.i64 n4)] ++ ([(AV.sl xs)] ++ ([] : List AV) : (List AV)) : (List AV)) : (List AV)) : (List AV)) : (List AV)) : (List AV)) : (List AV))), (AV.i IntKind.i64 n5)]) ([] : List (Prod Nat Blk))) ∧
 (brP (decide (n5 = ((0 : Int) : Int))) (brP (!(strEq z (ByteArray.mk (Array.mk ([] : List UInt8))))) (((AV.b (decide (((((ByteArray.size z) : Nat) : Int) : Int) ≤ (24 : Int)))) = (v : AV)) ∧
 (([] : List (Prod Nat Blk)) = (([] : List (Prod Nat Blk)) : Heap))) (((AV.b Bool.false) = (v : AV)) ∧
 (([] : List (Prod Nat Blk)) = (([] : List (Prod Nat Blk)) : Heap)))) (((AV.b Bool.false) = (v : AV)) ∧
 (([] : List (Prod Nat Blk)) = (([] : List (Prod Nat Blk)) : Heap))))))))))))))
theorem vWho_eq (x y z : ByteArray) (a f u r c : Int) (v : AV) : vWho x y z a f u r c v = (evF Try.prog T0 Try.f44 [] noK [.ag [.s x, .s y, .i .i64 a, .s z, .i .i64 f, .i .i64 u, .i .i64 r, .i .i64 c]] [] [] v []) := by kernel_rfl

def vEntry (A B C : Int) (l : List (List AV)) (x y z : ByteArray) (a f u r c : Int) (v : AV) : Prop :=
 (∃ x1 : Bool, ((ACalls Try.prog 44 [(AV.ag [(AV.s x), (AV.s y), (AV.i IntKind.i64 a), (AV.s z), (AV.i IntKind.i64 f), (AV.i IntKind.i64 u), (AV.i IntKind.i64 r), (AV.i IntKind.i64 c)])] ([] : List (Prod Nat Blk)) (AV.b x1) ([] : List (Prod Nat Blk))) ∧
 (brP (!x1) (((AV.b Bool.false) = (v : AV)) ∧
 (([] : List (Prod Nat Blk)) = (([] : List (Prod Nat Blk)) : Heap))) (brP (decide ((f : Int) < (0 : Int))) (((AV.b Bool.false) = (v : AV)) ∧
 (([] : List (Prod Nat Blk)) = (([] : List (Prod Nat Blk)) : Heap))) (brP (decide ((u : Int) ≤ f)) (((AV.b Bool.false) = (v : AV)) ∧
 (([] : List (Prod Nat Blk)) = (([] : List (Prod Nat Blk)) : Heap))) (brP (decide (((1073741824 : Int) : Int) < u)) (((AV.b Bool.false) = (v : AV)) ∧
 (([] : List (Prod Nat Blk)) = (([] : List (Prod Nat Blk)) : Heap))) (brP (decide ((r : Int) < (0 : Int))) (((AV.b Bool.false) = (v : AV)) ∧
 (([] : List (Prod Nat Blk)) = (([] : List (Prod Nat Blk)) : Heap))) (brP (decide (((1 : Int) : Int) < r)) (((AV.b Bool.false) = (v : AV)) ∧
 (([] : List (Prod Nat Blk)) = (([] : List (Prod Nat Blk)) : Heap))) (brP (decide (((0 : Int) : Int) ≤ c)) (brP (decide ((c : Int) ≤ (1073741824 : Int))) (((AV.b (decide (((IntKind.wrap IntKind.i64 (u - f : Int)) : Int) ≤ (IntKind.wrap IntKind.i64 (C * (IntKind.wrap IntKind.i64 ((1 : Int) + r : Int)) : Int))))) = (v : AV)) ∧
 (([] : List (Prod Nat Blk)) = (([] : List (Prod Nat Blk)) : Heap))) (((AV.b Bool.false) = (v : AV)) ∧
 (([] : List (Prod Nat Blk)) = (([] : List (Prod Nat Blk)) : Heap)))) (((AV.b Bool.false) = (v : AV)) ∧
 (([] : List (Prod Nat Blk)) = (([] : List (Prod Nat Blk)) : Heap))))))))))))
theorem vEntry_eq (A B C : Int) (l : List (List AV)) (x y z : ByteArray) (a f u r c : Int) (v : AV) : vEntry A B C l x y z a f u r c v = (evF Try.prog T0 Try.f28 [] noK [.ag [.i .i64 A, .i .i64 B, .i .i64 C, .sl l], .ag [.s x, .s y, .i .i64 a, .s z, .i .i64 f, .i .i64 u, .i .i64 r, .i .i64 c]] [] [] v []) := by kernel_rfl

def vMeets (x y z : ByteArray) (a f u r c : Int) (x' y' z' : ByteArray) (a' f' u' r' c' : Int) (v : AV) : Prop :=
 (brP (Bool.and (strEq x x') (Bool.and (strEq y y') Bool.true)) (brP (decide (a = (a' : Int))) (brP (decide ((f : Int) < u')) (((AV.b (decide ((f' : Int) < u))) = (v : AV)) ∧
 (([] : List (Prod Nat Blk)) = (([] : List (Prod Nat Blk)) : Heap))) (((AV.b Bool.false) = (v : AV)) ∧
 (([] : List (Prod Nat Blk)) = (([] : List (Prod Nat Blk)) : Heap)))) (((AV.b Bool.false) = (v : AV)) ∧
 (([] : List (Prod Nat Blk)) = (([] : List (Prod Nat Blk)) : Heap)))) (((AV.b Bool.false) = (v : AV)) ∧
 (([] : List (Prod Nat Blk)) = (([] : List (Prod Nat Blk)) : Heap))))
theorem vMeets_eq (x y z : ByteArray) (a f u r c : Int) (x' y' z' : ByteArray) (a' f' u' r' c' : Int) (v : AV) : vMeets x y z a f u r c x' y' z' a' f' u' r' c' v = (evF Try.prog T0 Try.f30 [] noK [.ag [.s x, .s y, .i .i64 a, .s z, .i .i64 f, .i .i64 u, .i .i64 r, .i .i64 c], .ag [.s x', .s y', .i .i64 a', .s z', .i .i64 f', .i .i64 u', .i .i64 r', .i .i64 c']] [] [] v []) := by kernel_rfl

def vCompare (x y z : ByteArray) (a f u r c : Int) (x' y' z' : ByteArray) (a' f' u' r' c' : Int) (v : AV) : Prop :=
 (∃ n : Int, ((ACalls Try.prog 52 [(AV.s x), (AV.s x')] ([] : List (Prod Nat Blk)) (AV.i IntKind.i64 n) ([] : List (Prod Nat Blk))) ∧
 (∃ n1 : Int, ((ACalls Try.prog 52 [(AV.s y), (AV.s y')] ([] : List (Prod Nat Blk)) (AV.i IntKind.i64 n1) ([] : List (Prod Nat Blk))) ∧
 (∃ n2 : Int, ((ACalls Try.prog 53 [(AV.i IntKind.i64 a), (AV.i IntKind.i64 a')] ([] : List (Prod Nat Blk)) (AV.i IntKind.i64 n2) ([] : List (Prod Nat Blk))) ∧
 (∃ n3 : Int, ((ACalls Try.prog 53 [(AV.i IntKind.i64 f), (AV.i IntKind.i64 f')] ([] : List (Prod Nat Blk)) (AV.i IntKind.i64 n3) ([] : List (Prod Nat Blk))) ∧
 (∃ n4 : Int, ((ACalls Try.prog 51 [(AV.sl [[(AV.i IntKind.i64 n)], [(AV.i IntKind.i64 n1)], [(AV.i IntKind.i64 n2)], [(AV.i IntKind.i64 n3)]])] ([] : List (Prod Nat Blk)) (AV.i IntKind.i64 n4) ([] : List (Prod Nat Blk))) ∧
 ((Bool.true = (Bool.true : Bool)) ∧
 (((AV.i IntKind.i64 n4) = (v : AV)) ∧
 (([] : List (Prod Nat Blk)) = (([] : List (Prod Nat Blk)) : Heap))))))))))))))
theorem vCompare_eq (x y z : ByteArray) (a f u r c : Int) (x' y' z' : ByteArray) (a' f' u' r' c' : Int) (v : AV) : vCompare x y z a f u r c x' y' z' a' f' u' r' c' v = (evF Try.prog T0 Try.f29 [] noK [.ag [.s x, .s y, .i .i64 a, .s z, .i .i64 f, .i .i64 u, .i .i64 r, .i .i64 c], .ag [.s x', .s y', .i .i64 a', .s z', .i .i64 f', .i .i64 u', .i .i64 r', .i .i64 c']] [] [] v []) := by kernel_rfl

end Go.AM.Q
