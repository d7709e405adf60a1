/- Quarantine: conditions of the small functions, laid by program. -/
import Derived.Test.YthcpekjcnokonaaProg
import Derived.Test.YthcpekjcnokonaaAm23
import Derived.KernelRfl
set_option maxRecDepth 100000
set_option linter.unusedVariables false
namespace Go.AM.Q
open Go.Proofs
--BEGIN
def T0 : Nat → Option CSpec := fun _ => none
def vUsable (x y : ByteArray) (v : AV) : Prop :=
 (brP (!(strEq x (ByteArray.mk (Array.mk ([] : List UInt8))))) (brP (decide (((((ByteArray.size x) : Nat) : Int) : Int) ≤ (24 : Int))) (brP (!(strEq y (ByteArray.mk (Array.mk ([] : List UInt8))))) (((AV.b (decide (((((ByteArray.size y) : Nat) : Int) : Int) ≤ (24 : Int)))) = (v : AV)) ∧
 (([] : List (Prod Nat Blk)) = (([] : List (Prod Nat Blk)) : Heap))) (((AV.b Bool.false) = (v : AV)) ∧
 (([] : List (Prod Nat Blk)) = (([] : List (Prod Nat Blk)) : Heap)))) (((AV.b Bool.false) = (v : AV)) ∧
 (([] : List (Prod Nat Blk)) = (([] : List (Prod Nat Blk)) : Heap)))) (((AV.b Bool.false) = (v : AV)) ∧
 (([] : List (Prod Nat Blk)) = (([] : List (Prod Nat Blk)) : Heap))))
theorem vUsable_eq (x y : ByteArray) (v : AV) : vUsable x y v = (evF Try.prog T0 Try.f79 [] noK [.ag [.s x, .s y]] [] [] v []) := by kernel_rfl

def vOr (xs : List Int) (I : St → Prop) (v : AV) : Prop :=
 ((AtL (hd Try.f51 (3 : Nat)) (hd Try.f51 (3 : Nat))) ∧
 (I { t := [(0, (AV.sl (List.map (fun (n : Int) => [(AV.i IntKind.i64 n)]) xs))), (2, (AV.i IntKind.i64 (0 : Int))), (3, (AV.i IntKind.i64 (0 : Int))), (6, (AV.sl (List.map (fun (n : Int) => [(AV.i IntKind.i64 n)]) xs))), (7, (AV.i IntKind.i64 (((List.length (List.map (fun (n : Int) => [(AV.i IntKind.i64 n)]) xs)) : Nat) : Int))), (8, (AV.i IntKind.i64 (0 : Int)))], σ := ([] : List (Prod Nat Blk)), n := 0, m := 18 : St}))
theorem vOr_eq (xs : List Int) (I : St → Prop) (v : AV) : vOr xs I v = (evF Try.prog T0 Try.f51 [] (atK 0 (hd Try.f51 3) [] [0,2,3,6,7,8] I) [.sl (xs.map fun n => [.i .i64 n])] [] [] v []) := by kernel_rfl

def iOr (xs : List Int) (j : Nat) : St := { t := [(0, .sl (xs.map fun n => [.i .i64 n])), (2, .i .i64 0), (3, .i .i64 0), (6, .sl (xs.map fun n => [.i .i64 n])), (7, .i .i64 (xs.map fun n => [AV.i .i64 n]).length), (8, .i .i64 j)], σ := [], n := 0, m := 18 }
def vOrL (xs : List Int) (j : Nat) (I : St → Prop) (v : AV) : Prop :=
 (brP (decide ((((j : Nat) : Int) : Int) < (((List.length (List.map (fun (n : Int) => [(AV.i IntKind.i64 n)]) xs)) : Nat) : Int))) ((((0 : Int) : Int) ≤ ((j : Nat) : Int)) ∧
 (((((j : Nat) : Int) : Int) < (((List.length (List.map (fun (n : Int) => [(AV.i IntKind.i64 n)]) xs)) : Nat) : Int)) ∧
 (∃ n : Int, ((((List.map (fun (n1 : Int) => [(AV.i IntKind.i64 n1)]) xs))[(Int.toNat ((j : Nat) : Int))]? = ((Option.some [(AV.i IntKind.i64 n)]) : (Option (List AV)))) ∧
 ((1 = (1 : Nat)) ∧
 (brP (!(decide (n = ((0 : Int) : Int)))) (((AV.i IntKind.i64 n) = (v : AV)) ∧
 (([] : List (Prod Nat Blk)) = (([] : List (Prod Nat Blk)) : Heap))) ((AtL (hd Try.f51 (3 : Nat)) (hd Try.f51 (3 : Nat))) ∧
 (I { t := [(0, (AV.sl (List.map (fun (n1 : Int) => [(AV.i IntKind.i64 n1)]) xs))), (2, (AV.i IntKind.i64 (0 : Int))), (3, (AV.i IntKind.i64 (0 : Int))), (6, (AV.sl (List.map (fun (n1 : Int) => [(AV.i IntKind.i64 n1)]) xs))), (7, (AV.i IntKind.i64 (((List.length (List.map (fun (n1 : Int) => [(AV.i IntKind.i64 n1)]) xs)) : Nat) : Int))), (8, (AV.i IntKind.i64 (IntKind.wrap IntKind.i64 (((j : Nat) : Int) + (1 : Int) : Int))))], σ := ([] : List (Prod Nat Blk)), n := 0, m := 18 : St})))))))) (((AV.i IntKind.i64 (0 : Int)) = (v : AV)) ∧
 (([] : List (Prod Nat Blk)) = (([] : List (Prod Nat Blk)) : Heap))))
theorem vOrL_eq (xs : List Int) (j : Nat) (I : St → Prop) (v : AV) : vOrL xs j I v = (evL Try.prog T0 Try.f51 [] (atK 0 (hd Try.f51 3) [] [0,2,3,6,7,8] I) 3 (iOr xs j) 0 [] v []) := by kernel_rfl

def vSizes (a b c : Int) (l : AV) (v : AV) : Prop :=
 (brP (decide (((1 : Int) : Int) ≤ a)) (brP (decide ((a : Int) ≤ b)) (brP (decide ((b : Int) ≤ (32 : Int))) (brP (decide (((1 : Int) : Int) ≤ c)) (((AV.b (decide ((c : Int) ≤ (1073741824 : Int)))) = (v : AV)) ∧
 (([] : List (Prod Nat Blk)) = (([] : List (Prod Nat Blk)) : Heap))) (((AV.b Bool.false) = (v : AV)) ∧
 (([] : List (Prod Nat Blk)) = (([] : List (Prod Nat Blk)) : Heap)))) (((AV.b Bool.false) = (v : AV)) ∧
 (([] : List (Prod Nat Blk)) = (([] : List (Prod Nat Blk)) : Heap)))) (((AV.b Bool.false) = (v : AV)) ∧
 (([] : List (Prod Nat Blk)) = (([] : List (Prod Nat Blk)) : Heap)))) (((AV.b Bool.false) = (v : AV)) ∧
 (([] : List (Prod Nat Blk)) = (([] : List (Prod Nat Blk)) : Heap))))
theorem vSizes_eq (a b c : Int) (l : AV) (v : AV) : vSizes a b c l v = (evF Try.prog T0 Try.f25 [] noK [.ag [.i .i64 a, .i .i64 b, .i .i64 c, l]] [] [] v []) := by kernel_rfl

def vNew (a b c : Int) (v : AV) : Prop :=
 (∃ x : Bool, ((ACalls Try.prog 25 [(AV.ag [(AV.i IntKind.i64 a), (AV.i IntKind.i64 b), (AV.i IntKind.i64 c), (AV.sl ([] : List (List AV)))])] ([] : List (Prod Nat Blk)) (AV.b x) ([] : List (Prod Nat Blk))) ∧
 (brP (!x) (((AV.tup [(AV.ag [(AV.i IntKind.i64 (0 : Int)), (AV.i IntKind.i64 (0 : Int)), (AV.i IntKind.i64 (0 : Int)), (AV.sl ([] : List (List AV)))]), (AV.i IntKind.i64 (3 : Int))]) = (v : AV)) ∧
 (([] : List (Prod Nat Blk)) = (([] : List (Prod Nat Blk)) : Heap))) (((AV.tup [(AV.ag [(AV.i IntKind.i64 a), (AV.i IntKind.i64 b), (AV.i IntKind.i64 c), (AV.sl ([] : List (List AV)))]), (AV.i IntKind.i64 (0 : Int))]) = (v : AV)) ∧
 (([] : List (Prod Nat Blk)) = (([] : List (Prod Nat Blk)) : Heap))))))
theorem vNew_eq (a b c : Int) (v : AV) : vNew a b c v = (evF Try.prog T0 Try.f10 [] noK [.i .i64 a, .i .i64 b, .i .i64 c] [] [] v []) := by kernel_rfl

def vNumbers (a b c : Int) (v : AV) : Prop :=
 (brP (decide (((1 : Int) : Int) ≤ a)) (brP (decide ((a : Int) ≤ b)) (brP (decide ((b : Int) ≤ (32 : Int))) (brP (decide (((1 : Int) : Int) ≤ c)) (((AV.b (decide ((c : Int) ≤ (1073741824 : Int)))) = (v : AV)) ∧
 (([] : List (Prod Nat Blk)) = (([] : List (Prod Nat Blk)) : Heap))) (((AV.b Bool.false) = (v : AV)) ∧
 (([] : List (Prod Nat Blk)) = (([] : List (Prod Nat Blk)) : Heap)))) (((AV.b Bool.false) = (v : AV)) ∧
 (([] : List (Prod Nat Blk)) = (([] : List (Prod Nat Blk)) : Heap)))) (((AV.b Bool.false) = (v : AV)) ∧
 (([] : List (Prod Nat Blk)) = (([] : List (Prod Nat Blk)) : Heap)))) (((AV.b Bool.false) = (v : AV)) ∧
 (([] : List (Prod Nat Blk)) = (([] : List (Prod Nat Blk)) : Heap))))
theorem vNumbers_eq (a b c : Int) (v : AV) : vNumbers a b c v = (evF Try.prog T0 Try.f26 [] noK [.i .i64 a, .i .i64 b, .i .i64 c] [] [] v []) := by kernel_rfl

def vNew2 (a b c : Int) (v : AV) : Prop :=
 (∃ x : Bool, ((ACalls Try.prog 26 [(AV.i IntKind.i64 a), (AV.i IntKind.i64 b), (AV.i IntKind.i64 c)] ([] : List (Prod Nat Blk)) (AV.b x) ([] : List (Prod Nat Blk))) ∧
 (brP (!x) (((AV.tup [(AV.ag [(AV.i IntKind.i64 (0 : Int)), (AV.i IntKind.i64 (0 : Int)), (AV.i IntKind.i64 (0 : Int)), (AV.sl ([] : List (List AV)))]), (AV.i IntKind.i64 (3 : Int))]) = (v : AV)) ∧
 (([] : List (Prod Nat Blk)) = (([] : List (Prod Nat Blk)) : Heap))) (((AV.tup [(AV.ag [(AV.i IntKind.i64 a), (AV.i IntKind.i64 b), (AV.i IntKind.i64 c), (AV.sl ([] : List (List AV)))]), (AV.i IntKind.i64 (0 : Int))]) = (v : AV)) ∧
 (([] : List (Prod Nat Blk)) = (([] : List (Prod Nat Blk)) : Heap))))))
theorem vNew2_eq (a b c : Int) (v : AV) : vNew2 a b c v = (evF Try.prog T0 Try.f11 [] noK [.i .i64 a, .i .i64 b, .i .i64 c] [] [] v []) := by kernel_rfl

end Go.AM.Q
