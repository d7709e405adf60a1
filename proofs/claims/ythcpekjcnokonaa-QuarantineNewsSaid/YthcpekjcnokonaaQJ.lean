/- Quarantine: conditions of the reference's functions. -/
import Derived.Test.YthcpekjcnokonaaQI
import Derived.KernelRfl
set_option maxRecDepth 100000
set_option linter.unusedVariables false
namespace Go.AM.Q
open Go.Proofs
--BEGIN
def vUsa (x y : ByteArray) (v : AV) : Prop :=
 (brP (decide (((0 : Int) : Int) < (((ByteArray.size x) : Nat) : Int))) (brP (decide (((((ByteArray.size x) : Nat) : Int) : Int) ≤ (24 : Int))) (brP (decide (((0 : Int) : Int) < (((ByteArray.size y) : Nat) : Int))) (((AV.b (decide (((((ByteArray.size y) : Nat) : Int) : Int) ≤ (24 : Int)))) = (v : AV)) ∧
 (([] : List (Prod Nat Blk)) = (([] : List (Prod Nat Blk)) : Heap))) (((AV.b Bool.false) = (v : AV)) ∧
 (([] : List (Prod Nat Blk)) = (([] : List (Prod Nat Blk)) : Heap)))) (((AV.b Bool.false) = (v : AV)) ∧
 (([] : List (Prod Nat Blk)) = (([] : List (Prod Nat Blk)) : Heap)))) (((AV.b Bool.false) = (v : AV)) ∧
 (([] : List (Prod Nat Blk)) = (([] : List (Prod Nat Blk)) : Heap))))
theorem vUsa_eq (x y : ByteArray) (v : AV) : vUsa x y v = (evF Try.prog T0 Try.f64 [] noK [.ag [.s x, .s y]] [] [] v []) := by kernel_rfl

def vPla (n : Int) (v : AV) : Prop :=
 (brP (decide (((0 : Int) : Int) ≤ n)) (((AV.b (decide ((n : Int) ≤ (63 : Int)))) = (v : AV)) ∧
 (([] : List (Prod Nat Blk)) = (([] : List (Prod Nat Blk)) : Heap))) (((AV.b Bool.false) = (v : AV)) ∧
 (([] : List (Prod Nat Blk)) = (([] : List (Prod Nat Blk)) : Heap))))
theorem vPla_eq (n : Int) (v : AV) : vPla n v = (evF Try.prog T0 Try.f65 [] noK [.i .i64 n] [] [] v []) := by kernel_rfl

def vUsb (x y o : ByteArray) (n : Int) (v : AV) : Prop :=
 (∃ x1 : Bool, ((ACalls Try.prog 64 [(AV.ag [(AV.s x), (AV.s y)])] ([] : List (Prod Nat Blk)) (AV.b x1) ([] : List (Prod Nat Blk))) ∧
 (brP x1 (∃ x2 : Bool, ((ACalls Try.prog 65 [(AV.i IntKind.i64 n)] ([] : List (Prod Nat Blk)) (AV.b x2) ([] : List (Prod Nat Blk))) ∧
 (brP x2 (brP (decide (((0 : Int) : Int) < (((ByteArray.size o) : Nat) : Int))) (((AV.b (decide (((((ByteArray.size o) : Nat) : Int) : Int) ≤ (24 : Int)))) = (v : AV)) ∧
 (([] : List (Prod Nat Blk)) = (([] : List (Prod Nat Blk)) : Heap))) (((AV.b Bool.false) = (v : AV)) ∧
 (([] : List (Prod Nat Blk)) = (([] : List (Prod Nat Blk)) : Heap)))) (((AV.b Bool.false) = (v : AV)) ∧
 (([] : List (Prod Nat Blk)) = (([] : List (Prod Nat Blk)) : Heap)))))) (((AV.b Bool.false) = (v : AV)) ∧
 (([] : List (Prod Nat Blk)) = (([] : List (Prod Nat Blk)) : Heap))))))
theorem vUsb_eq (x y o : ByteArray) (n : Int) (v : AV) : vUsb x y o n v = (evF Try.prog T0 Try.f36 [] noK [.ag [.s x, .s y], .i .i64 n, .s o] [] [] v []) := by kernel_rfl

def vSame (h k : Held) (v : AV) : Prop :=
 (brP (Bool.and (strEq (h).1 (k).1) (Bool.and (strEq (h).2 (k).2) Bool.true)) (((AV.b (decide ((h).3 = ((k).3 : Int)))) = (v : AV)) ∧
 (([] : List (Prod Nat Blk)) = (([] : List (Prod Nat Blk)) : Heap))) (((AV.b Bool.false) = (v : AV)) ∧
 (([] : List (Prod Nat Blk)) = (([] : List (Prod Nat Blk)) : Heap))))
theorem vSame_eq (h k : Held) (v : AV) : vSame h k v = (evF Try.prog T0 Try.f66 [] noK [.ag h.cells, .ag k.cells] [] [] v []) := by kernel_rfl

def vMeet (h k : Held) (v : AV) : Prop :=
 (∃ x : Bool, ((ACalls Try.prog 66 [(AV.ag [(AV.s (h).1), (AV.s (h).2), (AV.i IntKind.i64 (h).3), (AV.s (h).4), (AV.i IntKind.i64 (h).5), (AV.i IntKind.i64 (h).6), (AV.i IntKind.i64 (h).7), (AV.i IntKind.i64 (h).8)]), (AV.ag [(AV.s (k).1), (AV.s (k).2), (AV.i IntKind.i64 (k).3), (AV.s (k).4), (AV.i IntKind.i64 (k).5), (AV.i IntKind.i64 (k).6), (AV.i IntKind.i64 (k).7), (AV.i IntKind.i64 (k).8)])] ([] : List (Prod Nat Blk)) (AV.b x) ([] : List (Prod Nat Blk))) ∧
 (brP x (brP (decide (((h).5 : Int) < (k).6)) (((AV.b (decide (((k).5 : Int) < (h).6))) = (v : AV)) ∧
 (([] : List (Prod Nat Blk)) = (([] : List (Prod Nat Blk)) : Heap))) (((AV.b Bool.false) = (v : AV)) ∧
 (([] : List (Prod Nat Blk)) = (([] : List (Prod Nat Blk)) : Heap)))) (((AV.b Bool.false) = (v : AV)) ∧
 (([] : List (Prod Nat Blk)) = (([] : List (Prod Nat Blk)) : Heap))))))
theorem vMeet_eq (h k : Held) (v : AV) : vMeet h k v = (evF Try.prog T0 Try.f38 [] noK [.ag h.cells, .ag k.cells] [] [] v []) := by kernel_rfl

def vCSt (x y : ByteArray) (v : AV) : Prop :=
 (∃ n : Int, ((NCalls Try.prog 83 ((([] : List AV) ++ [(AV.s x), (AV.s y)] : (List AV)) ++ ([] : List AV) : (List AV)) (restr ([] : List Nat) ([] : List (Prod Nat Blk))) (AV.i IntKind.i64 n)) ∧
 (((AV.i IntKind.i64 n) = (v : AV)) ∧
 (([] : List (Prod Nat Blk)) = (([] : List (Prod Nat Blk)) : Heap)))))
theorem vCSt_eq (x y : ByteArray) (v : AV) : vCSt x y v = (evF Try.prog T0 Try.f81 [] noK [.s x, .s y] [] [] v []) := by kernel_rfl

def vSCo (x y : ByteArray) (v : AV) : Prop :=
 (∃ n : Int, ((ACalls Try.prog 81 [(AV.s x), (AV.s y)] ([] : List (Prod Nat Blk)) (AV.i IntKind.i64 n) ([] : List (Prod Nat Blk))) ∧
 (((AV.i IntKind.i64 n) = (v : AV)) ∧
 (([] : List (Prod Nat Blk)) = (([] : List (Prod Nat Blk)) : Heap)))))
theorem vSCo_eq (x y : ByteArray) (v : AV) : vSCo x y v = (evF Try.prog T0 Try.f78 [] noK [.s x, .s y] [] [] v []) := by kernel_rfl

def vOrder (x y x' y' : ByteArray) (v : AV) : Prop :=
 (∃ n : Int, ((ACalls Try.prog 78 [(AV.s x), (AV.s x')] ([] : List (Prod Nat Blk)) (AV.i IntKind.i64 n) ([] : List (Prod Nat Blk))) ∧
 (brP (!(decide (n = ((0 : Int) : Int)))) (((AV.i IntKind.i64 n) = (v : AV)) ∧
 (([] : List (Prod Nat Blk)) = (([] : List (Prod Nat Blk)) : Heap))) (∃ n1 : Int, ((ACalls Try.prog 78 [(AV.s y), (AV.s y')] ([] : List (Prod Nat Blk)) (AV.i IntKind.i64 n1) ([] : List (Prod Nat Blk))) ∧
 (((AV.i IntKind.i64 n1) = (v : AV)) ∧
 (([] : List (Prod Nat Blk)) = (([] : List (Prod Nat Blk)) : Heap))))))))
theorem vOrder_eq (x y x' y' : ByteArray) (v : AV) : vOrder x y x' y' v = (evF Try.prog T0 Try.f67 [] noK [.ag [.s x, .s y], .ag [.s x', .s y']] [] [] v []) := by kernel_rfl

def vLess (h k : Held) (v : AV) : Prop :=
 (∃ n : Int, ((ACalls Try.prog 67 [(AV.ag [(AV.s (h).1), (AV.s (h).2)]), (AV.ag [(AV.s (k).1), (AV.s (k).2)])] ([] : List (Prod Nat Blk)) (AV.i IntKind.i64 n) ([] : List (Prod Nat Blk))) ∧
 (brP (!(decide (n = ((0 : Int) : Int)))) (((AV.b (decide ((n : Int) < (0 : Int)))) = (v : AV)) ∧
 (([] : List (Prod Nat Blk)) = (([] : List (Prod Nat Blk)) : Heap))) (brP (!(decide ((h).3 = ((k).3 : Int)))) (((AV.b (decide (((h).3 : Int) < (k).3))) = (v : AV)) ∧
 (([] : List (Prod Nat Blk)) = (([] : List (Prod Nat Blk)) : Heap))) (((AV.b (decide (((h).5 : Int) < (k).5))) = (v : AV)) ∧
 (([] : List (Prod Nat Blk)) = (([] : List (Prod Nat Blk)) : Heap)))))))
theorem vLess_eq (h k : Held) (v : AV) : vLess h k v = (evF Try.prog T0 Try.f39 [] noK [.ag h.cells, .ag k.cells] [] [] v []) := by kernel_rfl

def cOw : List (Nat × (List (Nat × (Nat × Nat)) × List Nat)) := [(3, ([], [1,2,5,6]))]
def iOw (a b c : Int) (l : List Held) (o : ByteArray) (n : Int) (j : Nat) : St := { t := [(1, .s o), (2, .ptr 0 0), (5, .i .i64 n), (6, .i .i64 j)], σ := [(0, .cells [.i .i64 a, .i .i64 b, .i .i64 c, .sl (rowH l)])], n := 1, m := 25 }
def vOw (a b c : Int) (l : List Held) (o : ByteArray) (I : Nat → St → Prop) (v : AV) : Prop :=
 ((AtL (hd Try.f37 3) (hd Try.f37 3)) ∧
 (I 3 { t := [(1, (AV.s o)), (2, (AV.ptr 0 0)), (5, (AV.i IntKind.i64 (0 : Int))), (6, (AV.i IntKind.i64 (0 : Int)))], σ := [(0, (Blk.cells [(AV.i IntKind.i64 a), (AV.i IntKind.i64 b), (AV.i IntKind.i64 c), (AV.sl (Q.rowH l))]))], n := 1, m := 25 : St}))
theorem vOw_eq (a b c : Int) (l : List Held) (o : ByteArray) (I : Nat → St → Prop) (v : AV) : vOw a b c l o I v = (evF Try.prog T0 Try.f37 [] (cutA 0 Try.f37 cOw I) [qAV a b c (rowH l), .s o] [] [] v []) := by kernel_rfl

def vOwL (a b c : Int) (l : List Held) (o : ByteArray) (n : Int) (j : Nat) (I : Nat → St → Prop) (v : AV) : Prop :=
 (brP (decide ((((j : Nat) : Int) : Int) < (((List.length (Q.rowH l)) : Nat) : Int))) ((((0 : Int) : Int) ≤ ((j : Nat) : Int)) ∧
 (((((j : Nat) : Int) : Int) < (((List.length (Q.rowH l)) : Nat) : Int)) ∧
 (∃ x : ByteArray, (∃ x1 : ByteArray, (∃ n1 : Int, (∃ x2 : ByteArray, (∃ n2 : Int, (∃ n3 : Int, (∃ n4 : Int, (∃ n5 : Int, ((((Q.rowH l))[(Int.toNat ((j : Nat) : Int))]? = ((Option.some [(AV.s x), (AV.s x1), (AV.i IntKind.i64 n1), (AV.s x2), (AV.i IntKind.i64 n2), (AV.i IntKind.i64 n3), (AV.i IntKind.i64 n4), (AV.i IntKind.i64 n5)]) : (Option (List AV)))) ∧
 (((List.length (([(AV.s x)] ++ ([(AV.s x1)] ++ ([] : List AV) : (List AV)) : (List AV)) ++ ([(AV.i IntKind.i64 n1)] ++ ([(AV.s x2)] ++ ([(AV.i IntKind.i64 n2)] ++ ([(AV.i IntKind.i64 n3)] ++ ([(AV.i IntKind.i64 n4)] ++ ([(AV.i IntKind.i64 n5)] ++ ([] : List AV) : (List AV)) : (List AV)) : (List AV)) : (List AV)) : (List AV)) : (List AV)) : (List AV))) = (8 : Nat)) ∧
 (brP (strEq x2 o) ((AtL (hd Try.f37 3) (hd Try.f37 3)) ∧
 (I 3 { t := [(1, (AV.s o)), (2, (AV.ptr 0 0)), (5, (AV.i IntKind.i64 (IntKind.wrap IntKind.i64 (n + (1 : Int) : Int)))), (6, (AV.i IntKind.i64 (IntKind.wrap IntKind.i64 (((j : Nat) : Int) + (1 : Int) : Int))))], σ := [(0, (Blk.cells [(AV.i IntKind.i64 a), (AV.i IntKind.i64 b), (AV.i IntKind.i64 c), (AV.sl (Q.rowH l))]))], n := 1, m := 25 : St})) ((AtL (hd Try.f37 3) (hd Try.f37 3)) ∧
 (I 3 { t := [(1, (AV.s o)), (2, (AV.ptr 0 0)), (5, (AV.i IntKind.i64 n)), (6, (AV.i IntKind.i64 (IntKind.wrap IntKind.i64 (((j : Nat) : Int) + (1 : Int) : Int))))], σ := [(0, (Blk.cells [(AV.i IntKind.i64 a), (AV.i IntKind.i64 b), (AV.i IntKind.i64 c), (AV.sl (Q.rowH l))]))], n := 1, m := 25 : St}))))))))))))))) (((AV.i IntKind.i64 n) = (v : AV)) ∧
 (([] : List (Prod Nat Blk)) = (([] : List (Prod Nat Blk)) : Heap))))
theorem vOwL_eq (a b c : Int) (l : List Held) (o : ByteArray) (n : Int) (j : Nat) (I : Nat → St → Prop) (v : AV) : vOwL a b c l o n j I v = (evL Try.prog T0 Try.f37 [] (cutA 0 Try.f37 cOw I) 3 (iOw a b c l o n j) 0 [] v []) := by kernel_rfl

def cFi : List (Nat × (List (Nat × (Nat × Nat)) × List Nat)) := [(2, ([], [2,3,4,5,9]))]
def iFi (a b c : Int) (l : List Held) (m : Mom) (j : Nat) : St := { t := [(2, .i .i64 m.e), (3, .i .i64 m.now), (4, .ptr 0 0), (5, .ptr 1 0), (9, .i .i64 j)], σ := [(0, .cells [.i .i64 a, .i .i64 b, .i .i64 c, .sl (rowH l)]), (1, .cells [.s m.p, .s m.t])], n := 2, m := 46 }
def vFi (a b c : Int) (l : List Held) (m : Mom) (I : Nat → St → Prop) (v : AV) : Prop :=
 ((AtL (hd Try.f76 2) (hd Try.f76 2)) ∧
 (I 2 { t := [(2, (AV.i IntKind.i64 (m).3)), (3, (AV.i IntKind.i64 (m).4)), (4, (AV.ptr 0 0)), (5, (AV.ptr 1 0)), (9, (AV.i IntKind.i64 (0 : Int)))], σ := [(0, (Blk.cells [(AV.i IntKind.i64 a), (AV.i IntKind.i64 b), (AV.i IntKind.i64 c), (AV.sl (Q.rowH l))])), (1, (Blk.cells [(AV.s (m).1), (AV.s (m).2)]))], n := 2, m := 46 : St}))
theorem vFi_eq (a b c : Int) (l : List Held) (m : Mom) (I : Nat → St → Prop) (v : AV) : vFi a b c l m I v = (evF Try.prog T0 Try.f76 [] (cutA 0 Try.f76 cFi I) [qAV a b c (rowH l), .ag [.s m.p, .s m.t], .i .i64 m.e, .i .i64 m.now] [] [] v []) := by kernel_rfl

def vFiL (a b c : Int) (l : List Held) (m : Mom) (j : Nat) (I : Nat → St → Prop) (v : AV) : Prop :=
 (brP (decide ((((j : Nat) : Int) : Int) < (((List.length (Q.rowH l)) : Nat) : Int))) ((((0 : Int) : Int) ≤ ((j : Nat) : Int)) ∧
 (((((j : Nat) : Int) : Int) < (((List.length (Q.rowH l)) : Nat) : Int)) ∧
 (∃ x : ByteArray, (∃ x1 : ByteArray, (∃ n : Int, (∃ x2 : ByteArray, (∃ n1 : Int, (∃ n2 : Int, (∃ n3 : Int, (∃ n4 : Int, ((((Q.rowH l))[(Int.toNat ((j : Nat) : Int))]? = ((Option.some [(AV.s x), (AV.s x1), (AV.i IntKind.i64 n), (AV.s x2), (AV.i IntKind.i64 n1), (AV.i IntKind.i64 n2), (AV.i IntKind.i64 n3), (AV.i IntKind.i64 n4)]) : (Option (List AV)))) ∧
 (((List.length (([(AV.s x)] ++ ([(AV.s x1)] ++ ([] : List AV) : (List AV)) : (List AV)) ++ ([(AV.i IntKind.i64 n)] ++ ([(AV.s x2)] ++ ([(AV.i IntKind.i64 n1)] ++ ([(AV.i IntKind.i64 n2)] ++ ([(AV.i IntKind.i64 n3)] ++ ([(AV.i IntKind.i64 n4)] ++ ([] : List AV) : (List AV)) : (List AV)) : (List AV)) : (List AV)) : (List AV)) : (List AV)) : (List AV))) = (8 : Nat)) ∧
 (brP (Bool.and (strEq x (m).1) (Bool.and (strEq x1 (m).2) Bool.true)) (brP (decide (n = ((m).3 : Int))) (brP (decide ((n1 : Int) ≤ (m).4)) (brP (decide (((m).4 : Int) < n2)) (((AV.i IntKind.i64 ((j : Nat) : Int)) = (v : AV)) ∧
 (([] : List (Prod Nat Blk)) = (([] : List (Prod Nat Blk)) : Heap))) ((AtL (hd Try.f76 2) (hd Try.f76 2)) ∧
 (I 2 { t := [(2, (AV.i IntKind.i64 (m).3)), (3, (AV.i IntKind.i64 (m).4)), (4, (AV.ptr 0 0)), (5, (AV.ptr 1 0)), (9, (AV.i IntKind.i64 (IntKind.wrap IntKind.i64 (((j : Nat) : Int) + (1 : Int) : Int))))], σ := [(0, (Blk.cells [(AV.i IntKind.i64 a), (AV.i IntKind.i64 b), (AV.i IntKind.i64 c), (AV.sl (Q.rowH l))])), (1, (Blk.cells [(AV.s (m).1), (AV.s (m).2)]))], n := 2, m := 46 : St}))) ((AtL (hd Try.f76 2) (hd Try.f76 2)) ∧
 (I 2 { t := [(2, (AV.i IntKind.i64 (m).3)), (3, (AV.i IntKind.i64 (m).4)), (4, (AV.ptr 0 0)), (5, (AV.ptr 1 0)), (9, (AV.i IntKind.i64 (IntKind.wrap IntKind.i64 (((j : Nat) : Int) + (1 : Int) : Int))))], σ := [(0, (Blk.cells [(AV.i IntKind.i64 a), (AV.i IntKind.i64 b), (AV.i IntKind.i64 c), (AV.sl (Q.rowH l))])), (1, (Blk.cells [(AV.s (m).1), (AV.s (m).2)]))], n := 2, m := 46 : St}))) ((AtL (hd Try.f76 2) (hd Try.f76 2)) ∧
 (I 2 { t := [(2, (AV.i IntKind.i64 (m).3)), (3, (AV.i IntKind.i64 (m).4)), (4, (AV.ptr 0 0)), (5, (AV.ptr 1 0)), (9, (AV.i IntKind.i64 (IntKind.wrap IntKind.i64 (((j : Nat) : Int) + (1 : Int) : Int))))], σ := [(0, (Blk.cells [(AV.i IntKind.i64 a), (AV.i IntKind.i64 b), (AV.i IntKind.i64 c), (AV.sl (Q.rowH l))])), (1, (Blk.cells [(AV.s (m).1), (AV.s (m).2)]))], n := 2, m := 46 : St}))) ((AtL (hd Try.f76 2) (hd Try.f76 2)) ∧
 (I 2 { t := [(2, (AV.i IntKind.i64 (m).3)), (3, (AV.i IntKind.i64 (m).4)), (4, (AV.ptr 0 0)), (5, (AV.ptr 1 0)), (9, (AV.i IntKind.i64 (IntKind.wrap IntKind.i64 (((j : Nat) : Int) + (1 : Int) : Int))))], σ := [(0, (Blk.cells [(AV.i IntKind.i64 a), (AV.i IntKind.i64 b), (AV.i IntKind.i64 c), (AV.sl (Q.rowH l))])), (1, (Blk.cells [(AV.s (m).1), (AV.s (m).2)]))], n := 2, m := 46 : St}))))))))))))))) (((AV.i IntKind.i64 (-1 : Int)) = (v : AV)) ∧
 (([] : List (Prod Nat Blk)) = (([] : List (Prod Nat Blk)) : Heap))))
theorem vFiL_eq (a b c : Int) (l : List Held) (m : Mom) (j : Nat) (I : Nat → St → Prop) (v : AV) : vFiL a b c l m j I v = (evL Try.prog T0 Try.f76 [] (cutA 0 Try.f76 cFi I) 2 (iFi a b c l m j) 0 [] v []) := by kernel_rfl

def vWith (a b c : Int) (l : List Held) (i : Int) (x : Held) (v : AV) : Prop :=
 (((((List.length (Q.rowH l)) * 88 : Nat) : Nat) ≤ 140737488355328) ∧
 ((((List.length (Q.rowH l)) : Nat) ≤ 9223372036854775807) ∧
 ((∀ (y : (List AV)), ((List.Mem y (Q.rowH l)) → ((List.length y) = (8 : Nat)))) ∧
 ((((0 : Int) : Int) ≤ i) ∧
 (((i : Int) < (((List.length (Q.rowH l)) : Nat) : Int)) ∧
 (∃ el : (List AV), ((((Q.rowH l))[(Int.toNat i)]? = ((Option.some el) : (Option (List AV)))) ∧
 (((8 : Nat) ≤ (List.length el)) ∧
 (((AV.ag [(AV.i IntKind.i64 a), (AV.i IntKind.i64 b), (AV.i IntKind.i64 c), (AV.sl (List.set (Q.rowH l) (Int.toNat i) (splice el 0 [(AV.s (x).1), (AV.s (x).2), (AV.i IntKind.i64 (x).3), (AV.s (x).4), (AV.i IntKind.i64 (x).5), (AV.i IntKind.i64 (x).6), (AV.i IntKind.i64 (x).7), (AV.i IntKind.i64 (x).8)])))]) = (v : AV)) ∧
 (([] : List (Prod Nat Blk)) = (([] : List (Prod Nat Blk)) : Heap)))))))))))
theorem vWith_eq (a b c : Int) (l : List Held) (i : Int) (x : Held) (v : AV) : vWith a b c l i x v = (evF Try.prog T0 Try.f77 [] noK [qAV a b c (rowH l), .i .i64 i, .ag x.cells] [] [] v []) := by kernel_rfl

def cCk : List (Nat × (List (Nat × (Nat × Nat)) × List Nat)) := [(4, ([], [1,3])), (12, ([], [1,3,4,5]))]
def iCk4 (a b c : Int) (l : List Held) (i : Nat) : St := { t := [(1, .ptr 0 0), (3, .i .i64 i)], σ := [(0, .cells [.i .i64 a, .i .i64 b, .i .i64 c, .sl (rowH l)])], n := 1, m := 122 }
def iCk12 (a b c : Int) (l : List Held) (i k : Nat) (x : Held) : St := { t := [(1, .ptr 0 0), (3, .i .i64 i), (4, .ptr 1 0), (5, .i .i64 k)], σ := [(0, .cells [.i .i64 a, .i .i64 b, .i .i64 c, .sl (rowH l)]), (1, .cells x.cells)], n := 2, m := 122 }
def vCk0 (a b c : Int) (l : List Held) (I : Nat → St → Prop) (v : AV) : Prop :=
 (∃ x : Bool, ((ACalls Try.prog 26 [(AV.i IntKind.i64 a), (AV.i IntKind.i64 b), (AV.i IntKind.i64 c)] ([] : List (Prod Nat Blk)) (AV.b x) ([] : List (Prod Nat Blk))) ∧
 (brP (!x) (((AV.b Bool.false) = (v : AV)) ∧
 (([] : List (Prod Nat Blk)) = (([] : List (Prod Nat Blk)) : Heap))) (brP (decide ((b : Int) < (((List.length (Q.rowH l)) : Nat) : Int))) (((AV.b Bool.false) = (v : AV)) ∧
 (([] : List (Prod Nat Blk)) = (([] : List (Prod Nat Blk)) : Heap))) ((AtL (hd Try.f17 4) (hd Try.f17 4)) ∧
 (I 4 { t := [(1, (AV.ptr 0 0)), (3, (AV.i IntKind.i64 (0 : Int)))], σ := [(0, (Blk.cells [(AV.i IntKind.i64 a), (AV.i IntKind.i64 b), (AV.i IntKind.i64 c), (AV.sl (Q.rowH l))]))], n := 1, m := 122 : St}))))))
theorem vCk0_eq (a b c : Int) (l : List Held) (I : Nat → St → Prop) (v : AV) : vCk0 a b c l I v = (evF Try.prog T0 Try.f17 [] (cutA 0 Try.f17 cCk I) [qAV a b c (rowH l)] [] [] v []) := by kernel_rfl

def vCk4 (a b c : Int) (l : List Held) (i : Nat) (I : Nat → St → Prop) (v : AV) : Prop :=
 (brP (decide ((((i : Nat) : Int) : Int) < (((List.length (Q.rowH l)) : Nat) : Int))) ((((0 : Int) : Int) ≤ ((i : Nat) : Int)) ∧
 (((((i : Nat) : Int) : Int) < (((List.length (Q.rowH l)) : Nat) : Int)) ∧
 (∃ x : ByteArray, (∃ x1 : ByteArray, (∃ n : Int, (∃ x2 : ByteArray, (∃ n1 : Int, (∃ n2 : Int, (∃ n3 : Int, (∃ n4 : Int, ((((Q.rowH l))[(Int.toNat ((i : Nat) : Int))]? = ((Option.some [(AV.s x), (AV.s x1), (AV.i IntKind.i64 n), (AV.s x2), (AV.i IntKind.i64 n1), (AV.i IntKind.i64 n2), (AV.i IntKind.i64 n3), (AV.i IntKind.i64 n4)]) : (Option (List AV)))) ∧
 (((List.length (([(AV.s x)] ++ ([(AV.s x1)] ++ ([] : List AV) : (List AV)) : (List AV)) ++ ([(AV.i IntKind.i64 n)] ++ ([(AV.s x2)] ++ ([(AV.i IntKind.i64 n1)] ++ ([(AV.i IntKind.i64 n2)] ++ ([(AV.i IntKind.i64 n3)] ++ ([(AV.i IntKind.i64 n4)] ++ ([] : List AV) : (List AV)) : (List AV)) : (List AV)) : (List AV)) : (List AV)) : (List AV)) : (List AV))) = (8 : Nat)) ∧
 (∃ x3 : Bool, ((ACalls Try.prog 36 [(AV.ag [(AV.s x), (AV.s x1)]), (AV.i IntKind.i64 n), (AV.s x2)] ([] : List (Prod Nat Blk)) (AV.b x3) ([] : List (Prod Nat Blk))) ∧
 (brP (!x3) (((AV.b Bool.false) = (v : AV)) ∧
 (([] : List (Prod Nat Blk)) = (([] : List (Prod Nat Blk)) : Heap))) (brP (decide ((n1 : Int) < (0 : Int))) (((AV.b Bool.false) = (v : AV)) ∧
 (([] : List (Prod Nat Blk)) = (([] : List (Prod Nat Blk)) : Heap))) (brP (decide (((1073741824 : Int) : Int) < n2)) (((AV.b Bool.false) = (v : AV)) ∧
 (([] : List (Prod Nat Blk)) = (([] : List (Prod Nat Blk)) : Heap))) (brP (decide ((n3 : Int) < (0 : Int))) (((AV.b Bool.false) = (v : AV)) ∧
 (([] : List (Prod Nat Blk)) = (([] : List (Prod Nat Blk)) : Heap))) (brP (decide (((1 : Int) : Int) < n3)) (((AV.b Bool.false) = (v : AV)) ∧
 (([] : List (Prod Nat Blk)) = (([] : List (Prod Nat Blk)) : Heap))) (brP (decide ((n4 : Int) < (0 : Int))) (((AV.b Bool.false) = (v : AV)) ∧
 (([] : List (Prod Nat Blk)) = (([] : List (Prod Nat Blk)) : Heap))) (brP (decide (((1073741824 : Int) : Int) < n4)) (((AV.b Bool.false) = (v : AV)) ∧
 (([] : List (Prod Nat Blk)) = (([] : List (Prod Nat Blk)) : Heap))) (brP (decide ((n2 : Int) ≤ n1)) ((Bool.true = (Bool.true : Bool)) ∧
 (((AV.b Bool.false) = (v : AV)) ∧
 (([] : List (Prod Nat Blk)) = (([] : List (Prod Nat Blk)) : Heap)))) (brP (decide (((IntKind.wrap IntKind.i64 (c * (IntKind.wrap IntKind.i64 ((1 : Int) + n3 : Int)) : Int)) : Int) < (IntKind.wrap IntKind.i64 (n2 - n1 : Int)))) ((Bool.true = (Bool.true : Bool)) ∧
 (((AV.b Bool.false) = (v : AV)) ∧
 (([] : List (Prod Nat Blk)) = (([] : List (Prod Nat Blk)) : Heap)))) (∃ n5 : Int, ((ACalls Try.prog 37 [(AV.ag [(AV.i IntKind.i64 a), (AV.i IntKind.i64 b), (AV.i IntKind.i64 c), (AV.sl (Q.rowH l))]), (AV.s x2)] ([] : List (Prod Nat Blk)) (AV.i IntKind.i64 n5) ([] : List (Prod Nat Blk))) ∧
 ((Bool.true = (Bool.true : Bool)) ∧
 (brP (decide ((a : Int) < n5)) (((AV.b Bool.false) = (v : AV)) ∧
 (([] : List (Prod Nat Blk)) = (([] : List (Prod Nat Blk)) : Heap))) ((AtL (hd Try.f17 12) (hd Try.f17 12)) ∧
 (I 12 { t := [(1, (AV.ptr 0 0)), (3, (AV.i IntKind.i64 ((i : Nat) : Int))), (4, (AV.ptr 1 0)), (5, (AV.i IntKind.i64 (0 : Int)))], σ := [(0, (Blk.cells [(AV.i IntKind.i64 a), (AV.i IntKind.i64 b), (AV.i IntKind.i64 c), (AV.sl (Q.rowH l))])), (1, (Blk.cells [(AV.s x), (AV.s x1), (AV.i IntKind.i64 n), (AV.s x2), (AV.i IntKind.i64 n1), (AV.i IntKind.i64 n2), (AV.i IntKind.i64 n3), (AV.i IntKind.i64 n4)]))], n := 2, m := 122 : St}))))))))))))))))))))))))))))) (((AV.b Bool.true) = (v : AV)) ∧
 (([] : List (Prod Nat Blk)) = (([] : List (Prod Nat Blk)) : Heap))))
theorem vCk4_eq (a b c : Int) (l : List Held) (i : Nat) (I : Nat → St → Prop) (v : AV) : vCk4 a b c l i I v = (evL Try.prog T0 Try.f17 [] (cutA 0 Try.f17 cCk I) 4 (iCk4 a b c l i) 0 [] v []) := by kernel_rfl

def vCk12 (a b c : Int) (l : List Held) (i k : Nat) (x : Held) (I : Nat → St → Prop) (v : AV) : Prop :=
 (brP (decide ((((k : Nat) : Int) : Int) < ((i : Nat) : Int))) ((((0 : Int) : Int) ≤ ((k : Nat) : Int)) ∧
 (((((k : Nat) : Int) : Int) < (((List.length (Q.rowH l)) : Nat) : Int)) ∧
 (∃ x1 : ByteArray, (∃ x2 : ByteArray, (∃ n : Int, (∃ x3 : ByteArray, (∃ n1 : Int, (∃ n2 : Int, (∃ n3 : Int, (∃ n4 : Int, ((((Q.rowH l))[(Int.toNat ((k : Nat) : Int))]? = ((Option.some [(AV.s x1), (AV.s x2), (AV.i IntKind.i64 n), (AV.s x3), (AV.i IntKind.i64 n1), (AV.i IntKind.i64 n2), (AV.i IntKind.i64 n3), (AV.i IntKind.i64 n4)]) : (Option (List AV)))) ∧
 (((List.length (([(AV.s x1)] ++ ([(AV.s x2)] ++ ([] : List AV) : (List AV)) : (List AV)) ++ ([(AV.i IntKind.i64 n)] ++ ([(AV.s x3)] ++ ([(AV.i IntKind.i64 n1)] ++ ([(AV.i IntKind.i64 n2)] ++ ([(AV.i IntKind.i64 n3)] ++ ([(AV.i IntKind.i64 n4)] ++ ([] : List AV) : (List AV)) : (List AV)) : (List AV)) : (List AV)) : (List AV)) : (List AV)) : (List AV))) = (8 : Nat)) ∧
 (∃ x4 : Bool, ((ACalls Try.prog 38 [(AV.ag [(AV.s x1), (AV.s x2), (AV.i IntKind.i64 n), (AV.s x3), (AV.i IntKind.i64 n1), (AV.i IntKind.i64 n2), (AV.i IntKind.i64 n3), (AV.i IntKind.i64 n4)]), (AV.ag [(AV.s (x).1), (AV.s (x).2), (AV.i IntKind.i64 (x).3), (AV.s (x).4), (AV.i IntKind.i64 (x).5), (AV.i IntKind.i64 (x).6), (AV.i IntKind.i64 (x).7), (AV.i IntKind.i64 (x).8)])] ([] : List (Prod Nat Blk)) (AV.b x4) ([] : List (Prod Nat Blk))) ∧
 (brP x4 ((Bool.true = (Bool.true : Bool)) ∧
 (((AV.b Bool.false) = (v : AV)) ∧
 (([] : List (Prod Nat Blk)) = (([] : List (Prod Nat Blk)) : Heap)))) ((((0 : Int) : Int) ≤ ((k : Nat) : Int)) ∧
 (((((k : Nat) : Int) : Int) < (((List.length (Q.rowH l)) : Nat) : Int)) ∧
 (∃ x5 : ByteArray, (∃ x6 : ByteArray, (∃ n5 : Int, (∃ x7 : ByteArray, (∃ n6 : Int, (∃ n7 : Int, (∃ n8 : Int, (∃ n9 : Int, ((((Q.rowH l))[(Int.toNat ((k : Nat) : Int))]? = ((Option.some [(AV.s x5), (AV.s x6), (AV.i IntKind.i64 n5), (AV.s x7), (AV.i IntKind.i64 n6), (AV.i IntKind.i64 n7), (AV.i IntKind.i64 n8), (AV.i IntKind.i64 n9)]) : (Option (List AV)))) ∧
 (((List.length (([(AV.s x5)] ++ ([(AV.s x6)] ++ ([] : List AV) : (List AV)) : (List AV)) ++ ([(AV.i IntKind.i64 n5)] ++ ([(AV.s x7)] ++ ([(AV.i IntKind.i64 n6)] ++ ([(AV.i IntKind.i64 n7)] ++ ([(AV.i IntKind.i64 n8)] ++ ([(AV.i IntKind.i64 n9)] ++ ([] : List AV) : (List AV)) : (List AV)) : (List AV)) : (List AV)) : (List AV)) : (List AV)) : (List AV))) = (8 : Nat)) ∧
 (∃ x8 : Bool, ((ACalls Try.prog 39 [(AV.ag [(AV.s x5), (AV.s x6), (AV.i IntKind.i64 n5), (AV.s x7), (AV.i IntKind.i64 n6), (AV.i IntKind.i64 n7), (AV.i IntKind.i64 n8), (AV.i IntKind.i64 n9)]), (AV.ag [(AV.s (x).1), (AV.s (x).2), (AV.i IntKind.i64 (x).3), (AV.s (x).4), (AV.i IntKind.i64 (x).5), (AV.i IntKind.i64 (x).6), (AV.i IntKind.i64 (x).7), (AV.i IntKind.i64 (x).8)])] ([] : List (Prod Nat Blk)) (AV.b x8) ([] : List (Prod Nat Blk))) ∧
 ((Bool.true = (Bool.true : Bool)) ∧
 (brP (!x8) (((AV.b Bool.false) = (v : AV)) ∧
 (([] : List (Prod Nat Blk)) = (([] : List (Prod Nat Blk)) : Heap))) ((AtL (hd Try.f17 12) (hd Try.f17 12)) ∧
 (I 12 { t := [(1, (AV.ptr 0 0)), (3, (AV.i IntKind.i64 ((i : Nat) : Int))), (4, (AV.ptr 1 0)), (5, (AV.i IntKind.i64 (IntKind.wrap IntKind.i64 (((k : Nat) : Int) + (1 : Int) : Int))))], σ := [(0, (Blk.cells [(AV.i IntKind.i64 a), (AV.i IntKind.i64 b), (AV.i IntKind.i64 c), (AV.sl (Q.rowH l))])), (1, (Blk.cells [(AV.s (x).1), (AV.s (x).2), (AV.i IntKind.i64 (x).3), (AV.s (x).4), (AV.i IntKind.i64 (x).5), (AV.i IntKind.i64 (x).6), (AV.i IntKind.i64 (x).7), (AV.i IntKind.i64 (x).8)]))], n := 2, m := 122 : St}))))))))))))))))))))))))))))))))) ((AtL (hd Try.f17 4) (hd Try.f17 4)) ∧
 (I 4 { t := [(1, (AV.ptr 0 0)), (3, (AV.i IntKind.i64 (IntKind.wrap IntKind.i64 (((i : Nat) : Int) + (1 : Int) : Int))))], σ := [(0, (Blk.cells [(AV.i IntKind.i64 a), (AV.i IntKind.i64 b), (AV.i IntKind.i64 c), (AV.sl (Q.rowH l))]))], n := 1, m := 122 : St})))
theorem vCk12_eq (a b c : Int) (l : List Held) (i k : Nat) (x : Held) (I : Nat → St → Prop) (v : AV) : vCk12 a b c l i k x I v = (evL Try.prog T0 Try.f17 [] (cutA 0 Try.f17 cCk I) 12 (iCk12 a b c l i k x) 0 [] v []) := by kernel_rfl

def vLoad2 (a b c : Int) (l : List Held) (o : ByteArray) (v : AV) : Prop :=
 (∃ x : Bool, ((ACalls Try.prog 17 [(AV.ag [(AV.i IntKind.i64 a), (AV.i IntKind.i64 b), (AV.i IntKind.i64 c), (AV.sl (Q.rowH l))])] ([] : List (Prod Nat Blk)) (AV.b x) ([] : List (Prod Nat Blk))) ∧
 (brP (!x) (((AV.i IntKind.i64 (0 : Int)) = (v : AV)) ∧
 (([] : List (Prod Nat Blk)) = (([] : List (Prod Nat Blk)) : Heap))) (∃ n : Int, ((ACalls Try.prog 37 [(AV.ag [(AV.i IntKind.i64 a), (AV.i IntKind.i64 b), (AV.i IntKind.i64 c), (AV.sl (Q.rowH l))]), (AV.s o)] ([] : List (Prod Nat Blk)) (AV.i IntKind.i64 n) ([] : List (Prod Nat Blk))) ∧
 (((AV.i IntKind.i64 n) = (v : AV)) ∧
 (([] : List (Prod Nat Blk)) = (([] : List (Prod Nat Blk)) : Heap))))))))
theorem vLoad2_eq (a b c : Int) (l : List Held) (o : ByteArray) (v : AV) : vLoad2 a b c l o v = (evF Try.prog T0 Try.f21 [] noK [qAV a b c (rowH l), .s o] [] [] v []) := by kernel_rfl

def vActive2 (a b c : Int) (l : List Held) (m : Mom) (v : AV) : Prop :=
 (∃ x : Bool, ((ACalls Try.prog 17 [(AV.ag [(AV.i IntKind.i64 a), (AV.i IntKind.i64 b), (AV.i IntKind.i64 c), (AV.sl (Q.rowH l))])] ([] : List (Prod Nat Blk)) (AV.b x) ([] : List (Prod Nat Blk))) ∧
 (brP (!x) (((AV.tup [(AV.ag [(AV.s (ByteArray.mk (Array.mk ([] : List UInt8)))), (AV.s (ByteArray.mk (Array.mk ([] : List UInt8)))), (AV.i IntKind.i64 (0 : Int)), (AV.s (ByteArray.mk (Array.mk ([] : List UInt8)))), (AV.i IntKind.i64 (0 : Int)), (AV.i IntKind.i64 (0 : Int)), (AV.i IntKind.i64 (0 : Int)), (AV.i IntKind.i64 (0 : Int))]), (AV.b Bool.false)]) = (v : AV)) ∧
 (([] : List (Prod Nat Blk)) = (([] : List (Prod Nat Blk)) : Heap))) (∃ n : Int, ((ACalls Try.prog 76 [(AV.ag [(AV.i IntKind.i64 a), (AV.i IntKind.i64 b), (AV.i IntKind.i64 c), (AV.sl (Q.rowH l))]), (AV.ag [(AV.s (m).1), (AV.s (m).2)]), (AV.i IntKind.i64 (m).3), (AV.i IntKind.i64 (m).4)] ([] : List (Prod Nat Blk)) (AV.i IntKind.i64 n) ([] : List (Prod Nat Blk))) ∧
 (brP (decide (((0 : Int) : Int) ≤ n)) ((((0 : Int) : Int) ≤ n) ∧
 (((n : Int) < (((List.length (Q.rowH l)) : Nat) : Int)) ∧
 (∃ x1 : ByteArray, (∃ x2 : ByteArray, (∃ n1 : Int, (∃ x3 : ByteArray, (∃ n2 : Int, (∃ n3 : Int, (∃ n4 : Int, (∃ n5 : Int, ((((Q.rowH l))[(Int.toNat n)]? = ((Option.some [(AV.s x1), (AV.s x2), (AV.i IntKind.i64 n1), (AV.s x3), (AV.i IntKind.i64 n2), (AV.i IntKind.i64 n3), (AV.i IntKind.i64 n4), (AV.i IntKind.i64 n5)]) : (Option (List AV)))) ∧
 (((List.length (([(AV.s x1)] ++ ([(AV.s x2)] ++ ([] : List AV) : (List AV)) : (List AV)) ++ ([(AV.i IntKind.i64 n1)] ++ ([(AV.s x3)] ++ ([(AV.i IntKind.i64 n2)] ++ ([(AV.i IntKind.i64 n3)] ++ ([(AV.i IntKind.i64 n4)] ++ ([(AV.i IntKind.i64 n5)] ++ ([] : List AV) : (List AV)) : (List AV)) : (List AV)) : (List AV)) : (List AV)) : (List AV)) : (List AV))) = (8 : Nat)) ∧
 (((AV.tup [(AV.ag [(AV.s x1), (AV.s x2), (AV.i IntKind.i64 n1), (AV.s x3), (AV.i IntKind.i64 n2), (AV.i IntKind.i64 n3), (AV.i IntKind.i64 n4), (AV.i IntKind.i64 n5)]), (AV.b Bool.true)]) = (v : AV)) ∧
 (([] : List (Prod Nat Blk)) = (([] : List (Prod Nat Blk)) : Heap))))))))))))))) (((AV.tup [(AV.ag [(AV.s (ByteArray.mk (Array.mk ([] : List UInt8)))), (AV.s (ByteArray.mk (Array.mk ([] : List UInt8)))), (AV.i IntKind.i64 (0 : Int)), (AV.s (ByteArray.mk (Array.mk ([] : List UInt8)))), (AV.i IntKind.i64 (0 : Int)), (AV.i IntKind.i64 (0 : Int)), (AV.i IntKind.i64 (0 : Int)), (AV.i IntKind.i64 (0 : Int))]), (AV.b Bool.false)]) = (v : AV)) ∧
 (([] : List (Prod Nat Blk)) = (([] : List (Prod Nat Blk)) : Heap)))))))))
theorem vActive2_eq (a b c : Int) (l : List Held) (m : Mom) (v : AV) : vActive2 a b c l m v = (evF Try.prog T0 Try.f61 [] noK [qAV a b c (rowH l), .ag [.s m.p, .s m.t], .i .i64 m.e, .i .i64 m.now] [] [] v []) := by kernel_rfl

def cAd : List (Nat × (List (Nat × (Nat × Nat)) × List Nat)) := [(11, ([(15, (41, 8))], [3,6,12,14,15,16,17]))]
def iAd (a b c : Int) (l out : List Held) (x : Held) (d : Bool) (j : Nat) : St := { t := [(3, .s x.by'), (6, .ptr 0 0), (12, .ptr 1 0), (14, .ptr 2 0), (15, .own 3), (16, .b d), (17, .i .i64 j)], σ := [(0, .cells [.i .i64 a, .i .i64 b, .i .i64 c, .sl (rowH l)]), (1, .cells [.i .i64 0, .i .i64 0, .i .i64 0, .sl []]), (2, .cells x.cells), (3, .row 41 8 (rowH out))], n := 4, m := 115 }
def vAd (a b c : Int) (l : List Held) (p t : ByteArray) (e : Int) (o : ByteArray) (f u : Int) (I : Nat → St → Prop) (v : AV) : Prop :=
 (∃ x : Bool, ((ACalls Try.prog 17 [(AV.ag [(AV.i IntKind.i64 a), (AV.i IntKind.i64 b), (AV.i IntKind.i64 c), (AV.sl (Q.rowH l))])] ([] : List (Prod Nat Blk)) (AV.b x) ([] : List (Prod Nat Blk))) ∧
 (brP (!x) (((AV.tup [(AV.ag [(AV.i IntKind.i64 (0 : Int)), (AV.i IntKind.i64 (0 : Int)), (AV.i IntKind.i64 (0 : Int)), (AV.sl ([] : List (List AV)))]), (AV.i IntKind.i64 (1 : Int))]) = (v : AV)) ∧
 (([] : List (Prod Nat Blk)) = (([] : List (Prod Nat Blk)) : Heap))) (∃ x1 : Bool, ((ACalls Try.prog 36 [(AV.ag [(AV.s p), (AV.s t)]), (AV.i IntKind.i64 e), (AV.s o)] ([] : List (Prod Nat Blk)) (AV.b x1) ([] : List (Prod Nat Blk))) ∧
 (brP (!x1) (((AV.tup [(AV.ag [(AV.i IntKind.i64 (0 : Int)), (AV.i IntKind.i64 (0 : Int)), (AV.i IntKind.i64 (0 : Int)), (AV.sl ([] : List (List AV)))]), (AV.i IntKind.i64 (1 : Int))]) = (v : AV)) ∧
 (([] : List (Prod Nat Blk)) = (([] : List (Prod Nat Blk)) : Heap))) (brP (decide ((f : Int) < (0 : Int))) (((AV.tup [(AV.ag [(AV.i IntKind.i64 (0 : Int)), (AV.i IntKind.i64 (0 : Int)), (AV.i IntKind.i64 (0 : Int)), (AV.sl ([] : List (List AV)))]), (AV.i IntKind.i64 (3 : Int))]) = (v : AV)) ∧
 (([] : List (Prod Nat Blk)) = (([] : List (Prod Nat Blk)) : Heap))) (brP (decide ((u : Int) ≤ f)) (((AV.tup [(AV.ag [(AV.i IntKind.i64 (0 : Int)), (AV.i IntKind.i64 (0 : Int)), (AV.i IntKind.i64 (0 : Int)), (AV.sl ([] : List (List AV)))]), (AV.i IntKind.i64 (3 : Int))]) = (v : AV)) ∧
 (([] : List (Prod Nat Blk)) = (([] : List (Prod Nat Blk)) : Heap))) (brP (decide (((1073741824 : Int) : Int) < u)) (((AV.tup [(AV.ag [(AV.i IntKind.i64 (0 : Int)), (AV.i IntKind.i64 (0 : Int)), (AV.i IntKind.i64 (0 : Int)), (AV.sl ([] : List (List AV)))]), (AV.i IntKind.i64 (3 : Int))]) = (v : AV)) ∧
 (([] : List (Prod Nat Blk)) = (([] : List (Prod Nat Blk)) : Heap))) (brP (decide ((c : Int) < (IntKind.wrap IntKind.i64 (u - f : Int)))) (((AV.tup [(AV.ag [(AV.i IntKind.i64 (0 : Int)), (AV.i IntKind.i64 (0 : Int)), (AV.i IntKind.i64 (0 : Int)), (AV.sl ([] : List (List AV)))]), (AV.i IntKind.i64 (44 : Int))]) = (v : AV)) ∧
 (([] : List (Prod Nat Blk)) = (([] : List (Prod Nat Blk)) : Heap))) ((AtL (hd Try.f56 11) (hd Try.f56 11)) ∧
 (I 11 { t := [(3, (AV.s o)), (6, (AV.ptr 0 0)), (12, (AV.ptr 1 0)), (14, (AV.ptr 2 0)), (15, (AV.own 3)), (16, (AV.b Bool.false)), (17, (AV.i IntKind.i64 (0 : Int)))], σ := [(0, (Blk.cells [(AV.i IntKind.i64 a), (AV.i IntKind.i64 b), (AV.i IntKind.i64 c), (AV.sl (Q.rowH l))])), (1, (Blk.cells [(AV.i IntKind.i64 (0 : Int)), (AV.i IntKind.i64 (0 : Int)), (AV.i IntKind.i64 (0 : Int)), (AV.sl ([] : List (List AV)))])), (2, (Blk.cells [(AV.s p), (AV.s t), (AV.i IntKind.i64 e), (AV.s o), (AV.i IntKind.i64 f), (AV.i IntKind.i64 u), (AV.i IntKind.i64 (0 : Int)), (AV.i IntKind.i64 (0 : Int))])), (3, (Blk.row 41 8 ([] : List (List AV))))], n := 4, m := 115 : St}))))))))))))
theorem vAd_eq (a b c : Int) (l : List Held) (p t : ByteArray) (e : Int) (o : ByteArray) (f u : Int) (I : Nat → St → Prop) (v : AV) : vAd a b c l p t e o f u I v = (evF Try.prog TQ Try.f56 [] (cutA 0 Try.f56 cAd I) [qAV a b c (rowH l), .ag [.s p, .s t], .i .i64 e, .s o, .i .i64 f, .i .i64 u] [] [] v []) := by kernel_rfl

def vAdL (a b c : Int) (l out : List Held) (x : Held) (d : Bool) (j : Nat) (I : Nat → St → Prop) (v : AV) : Prop :=
 (brP (decide ((((j : Nat) : Int) : Int) < (((List.length (Q.rowH l)) : Nat) : Int))) ((((0 : Int) : Int) ≤ ((j : Nat) : Int)) ∧
 (((((j : Nat) : Int) : Int) < (((List.length (Q.rowH l)) : Nat) : Int)) ∧
 (∃ x1 : ByteArray, (∃ x2 : ByteArray, (∃ n : Int, (∃ x3 : ByteArray, (∃ n1 : Int, (∃ n2 : Int, (∃ n3 : Int, (∃ n4 : Int, ((((Q.rowH l))[(Int.toNat ((j : Nat) : Int))]? = ((Option.some [(AV.s x1), (AV.s x2), (AV.i IntKind.i64 n), (AV.s x3), (AV.i IntKind.i64 n1), (AV.i IntKind.i64 n2), (AV.i IntKind.i64 n3), (AV.i IntKind.i64 n4)]) : (Option (List AV)))) ∧
 (((List.length (([(AV.s x1)] ++ ([(AV.s x2)] ++ ([] : List AV) : (List AV)) : (List AV)) ++ ([(AV.i IntKind.i64 n)] ++ ([(AV.s x3)] ++ ([(AV.i IntKind.i64 n1)] ++ ([(AV.i IntKind.i64 n2)] ++ ([(AV.i IntKind.i64 n3)] ++ ([(AV.i IntKind.i64 n4)] ++ ([] : List AV) : (List AV)) : (List AV)) : (List AV)) : (List AV)) : (List AV)) : (List AV)) : (List AV))) = (8 : Nat)) ∧
 (∃ x4 : Bool, ((ACalls Try.prog 38 [(AV.ag [(AV.s x1), (AV.s x2), (AV.i IntKind.i64 n), (AV.s x3), (AV.i IntKind.i64 n1), (AV.i IntKind.i64 n2), (AV.i IntKind.i64 n3), (AV.i IntKind.i64 n4)]), (AV.ag [(AV.s (x).1), (AV.s (x).2), (AV.i IntKind.i64 (x).3), (AV.s (x).4), (AV.i IntKind.i64 (x).5), (AV.i IntKind.i64 (x).6), (AV.i IntKind.i64 (x).7), (AV.i IntKind.i64 (x).8)])] ([] : List (Prod Nat Blk)) (AV.b x4) ([] : List (Prod Nat Blk))) ∧
 ((Bool.true = (Bool.true : Bool)) ∧
 (brP x4 (((AV.tup [(AV.ag [(AV.i IntKind.i64 (0 : Int)), (AV.i IntKind.i64 (0 : Int)), (AV.i IntKind.i64 (0 : Int)), (AV.sl ([] : List (List AV)))]), (AV.i IntKind.i64 (19 : Int))]) = (v : AV)) ∧
 (([] : List (Prod Nat Blk)) = (([] : List (Prod Nat Blk)) : Heap))) (brP (!d) ((((0 : Int) : Int) ≤ ((j : Nat) : Int)) ∧
 (((((j : Nat) : Int) : Int) < (((List.length (Q.rowH l)) : Nat) : Int)) ∧
 (∃ x5 : ByteArray, (∃ x6 : ByteArray, (∃ n5 : Int, (∃ x7 : ByteArray, (∃ n6 : Int, (∃ n7 : Int, (∃ n8 : Int, (∃ n9 : Int, ((((Q.rowH l))[(Int.toNat ((j : Nat) : Int))]? = ((Option.some [(AV.s x5), (AV.s x6), (AV.i IntKind.i64 n5), (AV.s x7), (AV.i IntKind.i64 n6), (AV.i IntKind.i64 n7), (AV.i IntKind.i64 n8), (AV.i IntKind.i64 n9)]) : (Option (List AV)))) ∧
 (((List.length (([(AV.s x5)] ++ ([(AV.s x6)] ++ ([] : List AV) : (List AV)) : (List AV)) ++ ([(AV.i IntKind.i64 n5)] ++ ([(AV.s x7)] ++ ([(AV.i IntKind.i64 n6)] ++ ([(AV.i IntKind.i64 n7)] ++ ([(AV.i IntKind.i64 n8)] ++ ([(AV.i IntKind.i64 n9)] ++ ([] : List AV) : (List AV)) : (List AV)) : (List AV)) : (List AV)) : (List AV)) : (List AV)) : (List AV))) = (8 : Nat)) ∧
 (∃ x8 : Bool, ((ACalls Try.prog 39 [(AV.ag [(AV.s (x).1), (AV.s (x).2), (AV.i IntKind.i64 (x).3), (AV.s (x).4), (AV.i IntKind.i64 (x).5), (AV.i IntKind.i64 (x).6), (AV.i IntKind.i64 (x).7), (AV.i IntKind.i64 (x).8)]), (AV.ag [(AV.s x5), (AV.s x6), (AV.i IntKind.i64 n5), (AV.s x7), (AV.i IntKind.i64 n6), (AV.i IntKind.i64 n7), (AV.i IntKind.i64 n8), (AV.i IntKind.i64 n9)])] ([] : List (Prod Nat Blk)) (AV.b x8) ([] : List (Prod Nat Blk))) ∧
 ((Bool.true = (Bool.true : Bool)) ∧
 (brP x8 ((((((List.length (Q.rowH out)) + 1 : Nat) * 88 : Nat) : Nat) ≤ 140737488355328) ∧
 (((((List.length (Q.rowH out)) + 1 : Nat) : Nat) ≤ 9223372036854775807) ∧
 ((∀ (y : (List AV)), ((List.Mem y [[(AV.s (x).1), (AV.s (x).2), (AV.i IntKind.i64 (x).3), (AV.s (x).4), (AV.i IntKind.i64 (x).5), (AV.i IntKind.i64 (x).6), (AV.i IntKind.i64 (x).7), (AV.i IntKind.i64 (x).8)]]) → ((List.length y) = (8 : Nat)))) ∧
 ((((0 : Int) : Int) ≤ ((j : Nat) : Int)) ∧
 (((((j : Nat) : Int) : Int) < (((List.length (Q.rowH l)) : Nat) : Int)) ∧
 (∃ x9 : ByteArray, (∃ x10 : ByteArray, (∃ n10 : Int, (∃ x11 : ByteArray, (∃ n11 : Int, (∃ n12 : Int, (∃ n13 : Int, (∃ n14 : Int, ((((Q.rowH l))[(Int.toNat ((j : Nat) : Int))]? = ((Option.some [(AV.s x9), (AV.s x10), (AV.i IntKind.i64 n10), (AV.s x11), (AV.i IntKind.i64 n11), (AV.i IntKind.i64 n12), (AV.i IntKind.i64 n13), (AV.i IntKind.i64 n14)]) : (Option (List AV)))) ∧
 (((List.length (([(AV.s x9)] ++ ([(AV.s x10)] ++ ([] : List AV) : (List AV)) : (List AV)) ++ ([(AV.i IntKind.i64 n10)] ++ ([(AV.s x11)] ++ ([(AV.i IntKind.i64 n11)] ++ ([(AV.i IntKind.i64 n12)] ++ ([(AV.i IntKind.i64 n13)] ++ ([(AV.i IntKind.i64 n14)] ++ ([] : List AV) : (List AV)) : (List AV)) : (List AV)) : (List AV)) : (List AV)) : (List AV)) : (List AV))) = (8 : Nat)) ∧
 ((((((List.length ((Q.rowH out) ++ [[(AV.s (x).1), (AV.s (x).2), (AV.i IntKind.i64 (x).3), (AV.s (x).4), (AV.i IntKind.i64 (x).5), (AV.i IntKind.i64 (x).6), (AV.i IntKind.i64 (x).7), (AV.i IntKind.i64 (x).8)]] : (List (List AV)))) + 1 : Nat) * 88 : Nat) : Nat) ≤ 140737488355328) ∧
 (((((List.length ((Q.rowH out) ++ [[(AV.s (x).1), (AV.s (x).2), (AV.i IntKind.i64 (x).3), (AV.s (x).4), (AV.i IntKind.i64 (x).5), (AV.i IntKind.i64 (x).6), (AV.i IntKind.i64 (x).7), (AV.i IntKind.i64 (x).8)]] : (List (List AV)))) + 1 : Nat) : Nat) ≤ 9223372036854775807) ∧
 ((∀ (y : (List AV)), ((List.Mem y [[(AV.s x9), (AV.s x10), (AV.i IntKind.i64 n10), (AV.s x11), (AV.i IntKind.i64 n11), (AV.i IntKind.i64 n12), (AV.i IntKind.i64 n13), (AV.i IntKind.i64 n14)]]) → ((List.length y) = (8 : Nat)))) ∧
 ((AtL (hd Try.f56 11) (hd Try.f56 11)) ∧
 (I 11 { t := [(3, (AV.s (x).4)), (6, (AV.ptr 0 0)), (12, (AV.ptr 1 0)), (14, (AV.ptr 2 0)), (15, (AV.own 3)), (16, (AV.b Bool.true)), (17, (AV.i IntKind.i64 (IntKind.wrap IntKind.i64 (((j : Nat) : Int) + (1 : Int) : Int))))], σ := [(0, (Blk.cells [(AV.i IntKind.i64 a), (AV.i IntKind.i64 b), (AV.i IntKind.i64 c), (AV.sl (Q.rowH l))])), (1, (Blk.cells [(AV.i IntKind.i64 (0 : Int)), (AV.i IntKind.i64 (0 : Int)), (AV.i IntKind.i64 (0 : Int)), (AV.sl ([] : List (List AV)))])), (2, (Blk.cells [(AV.s (x).1), (AV.s (x).2), (AV.i IntKind.i64 (x).3), (AV.s (x).4), (AV.i IntKind.i64 (x).5), (AV.i IntKind.i64 (x).6), (AV.i IntKind.i64 (x).7), (AV.i IntKind.i64 (x).8)])), (3, (Blk.row 41 8 (((Q.rowH out) ++ [[(AV.s (x).1), (AV.s (x).2), (AV.i IntKind.i64 (x).3), (AV.s (x).4), (AV.i IntKind.i64 (x).5), (AV.i IntKind.i64 (x).6), (AV.i IntKind.i64 (x).7), (AV.i IntKind.i64 (x).8)]] : (List (List AV))) ++ [[(AV.s x9), (AV.s x10), (AV.i IntKind.i64 n10), (AV.s x11), (AV.i IntKind.i64 n11), (AV.i IntKind.i64 n12), (AV.i IntKind.i64 n13), (AV.i IntKind.i64 n14)]] : (List (List AV)))))], n := 4, m := 115 : St})))))))))))))))))))) ((((0 : Int) : Int) ≤ ((j : Nat) : Int)) ∧
 (((((j : Nat) : Int) : Int) < (((List.length (Q.rowH l)) : Nat) : Int)) ∧
 (∃ x9 : ByteArray, (∃ x10 : ByteArray, (∃ n10 : Int, (∃ x11 : ByteArray, (∃ n11 : Int, (∃ n12 : Int, (∃ n13 : Int, (∃ n14 : Int, ((((Q.rowH l))[(Int.toNat ((j : Nat) : Int))]? = ((Option.some [(AV.s x9), (AV.s x10), (AV.i IntKind.i64 n10), (AV.s x11), (AV.i IntKind.i64 n11), (AV.i IntKind.i64 n12), (AV.i IntKind.i64 n13), (AV.i IntKind.i64 n14)]) : (Option (List AV)))) ∧
 (((List.length (([(AV.s x9)] ++ ([(AV.s x10)] ++ ([] : List AV) : (List AV)) : (List AV)) ++ ([(AV.i IntKind.i64 n10)] ++ ([(AV.s x11)] ++ ([(AV.i IntKind.i64 n11)] ++ ([(AV.i IntKind.i64 n12)] ++ ([(AV.i IntKind.i64 n13)] ++ ([(AV.i IntKind.i64 n14)] ++ ([] : List AV) : (List AV)) : (List AV)) : (List AV)) : (List AV)) : (List AV)) : (List AV)) : (List AV))) = (8 : Nat)) ∧
 ((((((List.length (Q.rowH out)) + 1 : Nat) * 88 : Nat) : Nat) ≤ 140737488355328) ∧
 (((((List.length (Q.rowH out)) + 1 : Nat) : Nat) ≤ 9223372036854775807) ∧
 ((∀ (y : (List AV)), ((List.Mem y [[(AV.s x9), (AV.s x10), (AV.i IntKind.i64 n10), (AV.s x11), (AV.i IntKind.i64 n11), (AV.i IntKind.i64 n12), (AV.i IntKind.i64 n13), (AV.i IntKind.i64 n14)]]) → ((List.length y) = (8 : Nat)))) ∧
 ((AtL (hd Try.f56 11) (hd Try.f56 11)) ∧
 (I 11 { t := [(3, (AV.s (x).4)), (6, (AV.ptr 0 0)), (12, (AV.ptr 1 0)), (14, (AV.ptr 2 0)), (15, (AV.own 3)), (16, (AV.b d)), (17, (AV.i IntKind.i64 (IntKind.wrap IntKind.i64 (((j : Nat) : Int) + (1 : Int) : Int))))], σ := [(0, (Blk.cells [(AV.i IntKind.i64 a), (AV.i IntKind.i64 b), (AV.i IntKind.i64 c), (AV.sl (Q.rowH l))])), (1, (Blk.cells [(AV.i IntKind.i64 (0 : Int)), (AV.i IntKind.i64 (0 : Int)), (AV.i IntKind.i64 (0 : Int)), (AV.sl ([] : List (List AV)))])), (2, (Blk.cells [(AV.s (x).1), (AV.s (x).2), (AV.i IntKind.i64 (x).3), (AV.s (x).4), (AV.i IntKind.i64 (x).5), (AV.i IntKind.i64 (x).6), (AV.i IntKind.i64 (x).7), (AV.i IntKind.i64 (x).8)])), (3, (Blk.row 41 8 ((Q.rowH out) ++ [[(AV.s x9), (AV.s x10), (AV.i IntKind.i64 n10), (AV.s x11), (AV.i IntKind.i64 n11), (AV.i IntKind.i64 n12), (AV.i IntKind.i64 n13), (AV.i IntKind.i64 n14)]] : (List (List AV)))))], n := 4, m := 115 : St}))))))))))))))))))))))))))))))))) ((Bool.true = (Bool.true : Bool)) ∧
 ((((0 : Int) : Int) ≤ ((j : Nat) : Int)) ∧
 (((((j : Nat) : Int) : Int) < (((List.length (Q.rowH l)) : Nat) : Int)) ∧
 (∃ x5 : ByteArray, (∃ x6 : ByteArray, (∃ n5 : Int, (∃ x7 : ByteArray, (∃ n6 : Int, (∃ n7 : Int, (∃ n8 : Int, (∃ n9 : Int, ((((Q.rowH l))[(Int.toNat ((j : Nat) : Int))]? = ((Option.some [(AV.s x5), (AV.s x6), (AV.i IntKind.i64 n5), (AV.s x7), (AV.i IntKind.i64 n6), (AV.i IntKind.i64 n7), (AV.i IntKind.i64 n8), (AV.i IntKind.i64 n9)]) : (Option (List AV)))) ∧
 (((List.length (([(AV.s x5)] ++ ([(AV.s x6)] ++ ([] : List AV) : (List AV)) : (List AV)) ++ ([(AV.i IntKind.i64 n5)] ++ ([(AV.s x7)] ++ ([(AV.i IntKind.i64 n6)] ++ ([(AV.i IntKind.i64 n7)] ++ ([(AV.i IntKind.i64 n8)] ++ ([(AV.i IntKind.i64 n9)] ++ ([] : List AV) : (List AV)) : (List AV)) : (List AV)) : (List AV)) : (List AV)) : (List AV)) : (List AV))) = (8 : Nat)) ∧
 ((((((List.length (Q.rowH out)) + 1 : Nat) * 88 : Nat) : Nat) ≤ 140737488355328) ∧
 (((((List.length (Q.rowH out)) + 1 : Nat) : Nat) ≤ 9223372036854775807) ∧
 ((∀ (y : (List AV)), ((List.Mem y [[(AV.s x5), (AV.s x6), (AV.i IntKind.i64 n5), (AV.s x7), (AV.i IntKind.i64 n6), (AV.i IntKind.i64 n7), (AV.i IntKind.i64 n8), (AV.i IntKind.i64 n9)]]) → ((List.length y) = (8 : Nat)))) ∧
 ((AtL (hd Try.f56 11) (hd Try.f56 11)) ∧
 (I 11 { t := [(3, (AV.s (x).4)), (6, (AV.ptr 0 0)), (12, (AV.ptr 1 0)), (14, (AV.ptr 2 0)), (15, (AV.own 3)), (16, (AV.b d)), (17, (AV.i IntKind.i64 (IntKind.wrap IntKind.i64 (((j : Nat) : Int) + (1 : Int) : Int))))], σ := [(0, (Blk.cells [(AV.i IntKind.i64 a), (AV.i IntKind.i64 b), (AV.i IntKind.i64 c), (AV.sl (Q.rowH l))])), (1, (Blk.cells [(AV.i IntKind.i64 (0 : Int)), (AV.i IntKind.i64 (0 : Int)), (AV.i IntKind.i64 (0 : Int)), (AV.sl ([] : List (List AV)))])), (2, (Blk.cells [(AV.s (x).1), (AV.s (x).2), (AV.i IntKind.i64 (x).3), (AV.s (x).4), (AV.i IntKind.i64 (x).5), (AV.i IntKind.i64 (x).6), (AV.i IntKind.i64 (x).7), (AV.i IntKind.i64 (x).8)])), (3, (Blk.row 41 8 ((Q.rowH out) ++ [[(AV.s x5), (AV.s x6), (AV.i IntKind.i64 n5), (AV.s x7), (AV.i IntKind.i64 n6), (AV.i IntKind.i64 n7), (AV.i IntKind.i64 n8), (AV.i IntKind.i64 n9)]] : (List (List AV)))))], n := 4, m := 115 : St}))))))))))))))))))))))))))))))))))) (brP (!d) ((((((List.length (Q.rowH out)) + 1 : Nat) * 88 : Nat) : Nat) ≤ 140737488355328) ∧
 (((((List.length (Q.rowH out)) + 1 : Nat) : Nat) ≤ 9223372036854775807) ∧
 ((∀ (y : (List AV)), ((List.Mem y [[(AV.s (x).1), (AV.s (x).2), (AV.i IntKind.i64 (x).3), (AV.s (x).4), (AV.i IntKind.i64 (x).5), (AV.i IntKind.i64 (x).6), (AV.i IntKind.i64 (x).7), (AV.i IntKind.i64 (x).8)]]) → ((List.length y) = (8 : Nat)))) ∧
 (brP (decide ((b : Int) ≤ (((List.length (Q.rowH l)) : Nat) : Int))) (((AV.tup [(AV.ag [(AV.i IntKind.i64 (0 : Int)), (AV.i IntKind.i64 (0 : Int)), (AV.i IntKind.i64 (0 : Int)), (AV.sl ([] : List (List AV)))]), (AV.i IntKind.i64 (42 : Int))]) = (v : AV)) ∧
 (([] : List (Prod Nat Blk)) = (([] : List (Prod Nat Blk)) : Heap))) (∃ n : Int, ((ACalls Try.prog 37 [(AV.ag [(AV.i IntKind.i64 a), (AV.i IntKind.i64 b), (AV.i IntKind.i64 c), (AV.sl (Q.rowH l))]), (AV.s (x).4)] ([] : List (Prod Nat Blk)) (AV.i IntKind.i64 n) ([] : List (Prod Nat Blk))) ∧
 ((Bool.true = (Bool.true : Bool)) ∧
 (brP (decide ((a : Int) ≤ n)) (((AV.tup [(AV.ag [(AV.i IntKind.i64 (0 : Int)), (AV.i IntKind.i64 (0 : Int)), (AV.i IntKind.i64 (0 : Int)), (AV.sl ([] : List (List AV)))]), (AV.i IntKind.i64 (43 : Int))]) = (v : AV)) ∧
 (([] : List (Prod Nat Blk)) = (([] : List (Prod Nat Blk)) : Heap))) (((AV.tup [(AV.ag [(AV.i IntKind.i64 a), (AV.i IntKind.i64 b), (AV.i IntKind.i64 c), (AV.sl ((Q.rowH out) ++ [[(AV.s (x).1), (AV.s (x).2), (AV.i IntKind.i64 (x).3), (AV.s (x).4), (AV.i IntKind.i64 (x).5), (AV.i IntKind.i64 (x).6), (AV.i IntKind.i64 (x).7), (AV.i IntKind.i64 (x).8)]] : (List (List AV))))]), (AV.i IntKind.i64 (0 : Int))]) = (v : AV)) ∧
 (([] : List (Prod Nat Blk)) = (([] : List (Prod Nat Blk)) : Heap))))))))))) (brP (decide ((b : Int) ≤ (((List.length (Q.rowH l)) : Nat) : Int))) (((AV.tup [(AV.ag [(AV.i IntKind.i64 (0 : Int)), (AV.i IntKind.i64 (0 : Int)), (AV.i IntKind.i64 (0 : Int)), (AV.sl ([] : List (List AV)))]), (AV.i IntKind.i64 (42 : Int))]) = (v : AV)) ∧
 (([] : List (Prod Nat Blk)) = (([] : List (Prod Nat Blk)) : Heap))) (∃ n : Int, ((ACalls Try.prog 37 [(AV.ag [(AV.i IntKind.i64 a), (AV.i IntKind.i64 b), (AV.i IntKind.i64 c), (AV.sl (Q.rowH l))]), (AV.s (x).4)] ([] : List (Prod Nat Blk)) (AV.i IntKind.i64 n) ([] : List (Prod Nat Blk))) ∧
 ((Bool.true = (Bool.true : Bool)) ∧
 (brP (decide ((a : Int) ≤ n)) (((AV.tup [(AV.ag [(AV.i IntKind.i64 (0 : Int)), (AV.i IntKind.i64 (0 : Int)), (AV.i IntKind.i64 (0 : Int)), (AV.sl ([] : List (List AV)))]), (AV.i IntKind.i64 (43 : Int))]) = (v : AV)) ∧
 (([] : List (Prod Nat Blk)) = (([] : List (Prod Nat Blk)) : Heap))) (((AV.tup [(AV.ag [(AV.i IntKind.i64 a), (AV.i IntKind.i64 b), (AV.i IntKind.i64 c), (AV.sl (Q.rowH out))]), (AV.i IntKind.i64 (0 : Int))]) = (v : AV)) ∧
 (([] : List (Prod Nat Blk)) = (([] : List (Prod Nat Blk)) : Heap))))))))))
theorem vAdL_eq (a b c : Int) (l out : List Held) (x : Held) (d : Bool) (j : Nat) (I : Nat → St → Prop) (v : AV) : vAdL a b c l out x d j I v = (evL Try.prog TQ Try.f56 [] (cutA 0 Try.f56 cAd I) 11 (iAd a b c l out x d j) 0 [] v []) := by kernel_rfl

def cRe : List (Nat × (List (Nat × (Nat × Nat)) × List Nat)) := [(15, ([], [5,10,12,13,14]))]
def vRe (a b c : Int) (l : List Held) (m : Mom) (u : Int) (I : Nat → St → Prop) (v : AV) : Prop :=
 (∃ x : Bool, ((ACalls Try.prog 17 [(AV.ag [(AV.i IntKind.i64 a), (AV.i IntKind.i64 b), (AV.i IntKind.i64 c), (AV.sl (Q.rowH l))])] ([] : List (Prod Nat Blk)) (AV.b x) ([] : List (Prod Nat Blk))) ∧
 (brP (!x) (((AV.tup [(AV.ag [(AV.i IntKind.i64 (0 : Int)), (AV.i IntKind.i64 (0 : Int)), (AV.i IntKind.i64 (0 : Int)), (AV.sl ([] : List (List AV)))]), (AV.i IntKind.i64 (1 : Int))]) = (v : AV)) ∧
 (([] : List (Prod Nat Blk)) = (([] : List (Prod Nat Blk)) : Heap))) (∃ n : Int, ((ACalls Try.prog 76 [(AV.ag [(AV.i IntKind.i64 a), (AV.i IntKind.i64 b), (AV.i IntKind.i64 c), (AV.sl (Q.rowH l))]), (AV.ag [(AV.s (m).1), (AV.s (m).2)]), (AV.i IntKind.i64 (m).3), (AV.i IntKind.i64 (m).4)] ([] : List (Prod Nat Blk)) (AV.i IntKind.i64 n) ([] : List (Prod Nat Blk))) ∧
 (brP (decide ((n : Int) < (0 : Int))) (((AV.tup [(AV.ag [(AV.i IntKind.i64 (0 : Int)), (AV.i IntKind.i64 (0 : Int)), (AV.i IntKind.i64 (0 : Int)), (AV.sl ([] : List (List AV)))]), (AV.i IntKind.i64 (18 : Int))]) = (v : AV)) ∧
 (([] : List (Prod Nat Blk)) = (([] : List (Prod Nat Blk)) : Heap))) ((((0 : Int) : Int) ≤ n) ∧
 (((n : Int) < (((List.length (Q.rowH l)) : Nat) : Int)) ∧
 (∃ x1 : ByteArray, (∃ x2 : ByteArray, (∃ n1 : Int, (∃ x3 : ByteArray, (∃ n2 : Int, (∃ n3 : Int, (∃ n4 : Int, (∃ n5 : Int, ((((Q.rowH l))[(Int.toNat n)]? = ((Option.some [(AV.s x1), (AV.s x2), (AV.i IntKind.i64 n1), (AV.s x3), (AV.i IntKind.i64 n2), (AV.i IntKind.i64 n3), (AV.i IntKind.i64 n4), (AV.i IntKind.i64 n5)]) : (Option (List AV)))) ∧
 (((List.length (([(AV.s x1)] ++ ([(AV.s x2)] ++ ([] : List AV) : (List AV)) : (List AV)) ++ ([(AV.i IntKind.i64 n1)] ++ ([(AV.s x3)] ++ ([(AV.i IntKind.i64 n2)] ++ ([(AV.i IntKind.i64 n3)] ++ ([(AV.i IntKind.i64 n4)] ++ ([(AV.i IntKind.i64 n5)] ++ ([] : List AV) : (List AV)) : (List AV)) : (List AV)) : (List AV)) : (List AV)) : (List AV)) : (List AV))) = (8 : Nat)) ∧
 (brP (decide (n4 = ((1 : Int) : Int))) (((AV.tup [(AV.ag [(AV.i IntKind.i64 (0 : Int)), (AV.i IntKind.i64 (0 : Int)), (AV.i IntKind.i64 (0 : Int)), (AV.sl ([] : List (List AV)))]), (AV.i IntKind.i64 (45 : Int))]) = (v : AV)) ∧
 (([] : List (Prod Nat Blk)) = (([] : List (Prod Nat Blk)) : Heap))) (brP (decide ((u : Int) ≤ n3)) (((AV.tup [(AV.ag [(AV.i IntKind.i64 (0 : Int)), (AV.i IntKind.i64 (0 : Int)), (AV.i IntKind.i64 (0 : Int)), (AV.sl ([] : List (List AV)))]), (AV.i IntKind.i64 (3 : Int))]) = (v : AV)) ∧
 (([] : List (Prod Nat Blk)) = (([] : List (Prod Nat Blk)) : Heap))) (brP (decide (((1073741824 : Int) : Int) < u)) (((AV.tup [(AV.ag [(AV.i IntKind.i64 (0 : Int)), (AV.i IntKind.i64 (0 : Int)), (AV.i IntKind.i64 (0 : Int)), (AV.sl ([] : List (List AV)))]), (AV.i IntKind.i64 (3 : Int))]) = (v : AV)) ∧
 (([] : List (Prod Nat Blk)) = (([] : List (Prod Nat Blk)) : Heap))) (brP (decide ((c : Int) < (IntKind.wrap IntKind.i64 (u - (m).4 : Int)))) (((AV.tup [(AV.ag [(AV.i IntKind.i64 (0 : Int)), (AV.i IntKind.i64 (0 : Int)), (AV.i IntKind.i64 (0 : Int)), (AV.sl ([] : List (List AV)))]), (AV.i IntKind.i64 (44 : Int))]) = (v : AV)) ∧
 (([] : List (Prod Nat Blk)) = (([] : List (Prod Nat Blk)) : Heap))) ((AtL (hd Try.f57 15) (hd Try.f57 15)) ∧
 (I 15 { t := [(5, (AV.ptr 0 0)), (10, (AV.ptr 1 0)), (12, (AV.i IntKind.i64 n)), (13, (AV.ptr 2 0)), (14, (AV.i IntKind.i64 (0 : Int)))], σ := [(0, (Blk.cells [(AV.i IntKind.i64 a), (AV.i IntKind.i64 b), (AV.i IntKind.i64 c), (AV.sl (Q.rowH l))])), (1, (Blk.cells [(AV.i IntKind.i64 (0 : Int)), (AV.i IntKind.i64 (0 : Int)), (AV.i IntKind.i64 (0 : Int)), (AV.sl ([] : List (List AV)))])), (2, (Blk.cells [(AV.s x1), (AV.s x2), (AV.i IntKind.i64 n1), (AV.s x3), (AV.i IntKind.i64 n2), (AV.i IntKind.i64 u), (AV.i IntKind.i64 (1 : Int)), (AV.i IntKind.i64 n5)]))], n := 3, m := 82 : St}))))))))))))))))))))))))
theorem vRe_eq (a b c : Int) (l : List Held) (m : Mom) (u : Int) (I : Nat → St → Prop) (v : AV) : vRe a b c l m u I v = (evF Try.prog TQ Try.f57 [] (cutA 0 Try.f57 cRe I) [qAV a b c (rowH l), .ag [.s m.p, .s m.t], .i .i64 m.e, .i .i64 m.now, .i .i64 u] [] [] v []) := by kernel_rfl

def vRl (a b c : Int) (l : List Held) (m : Mom) (v : AV) : Prop :=
 (∃ x : Bool, ((ACalls Try.prog 17 [(AV.ag [(AV.i IntKind.i64 a), (AV.i IntKind.i64 b), (AV.i IntKind.i64 c), (AV.sl (Q.rowH l))])] ([] : List (Prod Nat Blk)) (AV.b x) ([] : List (Prod Nat Blk))) ∧
 (brP (!x) (((AV.tup [(AV.ag [(AV.i IntKind.i64 (0 : Int)), (AV.i IntKind.i64 (0 : Int)), (AV.i IntKind.i64 (0 : Int)), (AV.sl ([] : List (List AV)))]), (AV.i IntKind.i64 (1 : Int))]) = (v : AV)) ∧
 (([] : List (Prod Nat Blk)) = (([] : List (Prod Nat Blk)) : Heap))) (∃ n : Int, ((ACalls Try.prog 76 [(AV.ag [(AV.i IntKind.i64 a), (AV.i IntKind.i64 b), (AV.i IntKind.i64 c), (AV.sl (Q.rowH l))]), (AV.ag [(AV.s (m).1), (AV.s (m).2)]), (AV.i IntKind.i64 (m).3), (AV.i IntKind.i64 (m).4)] ([] : List (Prod Nat Blk)) (AV.i IntKind.i64 n) ([] : List (Prod Nat Blk))) ∧
 (brP (decide ((n : Int) < (0 : Int))) (((AV.tup [(AV.ag [(AV.i IntKind.i64 (0 : Int)), (AV.i IntKind.i64 (0 : Int)), (AV.i IntKind.i64 (0 : Int)), (AV.sl ([] : List (List AV)))]), (AV.i IntKind.i64 (18 : Int))]) = (v : AV)) ∧
 (([] : List (Prod Nat Blk)) = (([] : List (Prod Nat Blk)) : Heap))) ((((0 : Int) : Int) ≤ n) ∧
 (((n : Int) ≤ (((List.length (Q.rowH l)) : Nat) : Int)) ∧
 ((∀ (x1 : (List AV)), ((List.Mem x1 (Q.rowH l)) → ((List.length x1) = (8 : Nat)))) ∧
 (((((List.length (List.drop 0 (List.take (Int.toNat n) (Q.rowH l)))) * 88 : Nat) : Nat) ≤ 140737488355328) ∧
 ((((List.length (List.drop 0 (List.take (Int.toNat n) (Q.rowH l)))) : Nat) ≤ 9223372036854775807) ∧
 ((∀ (y : (List AV)), ((List.Mem y (List.drop 0 (List.take (Int.toNat n) (Q.rowH l)))) → ((List.length y) = (8 : Nat)))) ∧
 ((((0 : Int) : Int) ≤ (IntKind.wrap IntKind.i64 (n + (1 : Int) : Int))) ∧
 ((((IntKind.wrap IntKind.i64 (n + (1 : Int) : Int)) : Int) ≤ (((List.length (Q.rowH l)) : Nat) : Int)) ∧
 ((∀ (x1 : (List AV)), ((List.Mem x1 (Q.rowH l)) → ((List.length x1) = (8 : Nat)))) ∧
 ((((((List.length (List.drop 0 (List.take (Int.toNat n) (Q.rowH l)))) + (List.length (List.drop (Int.toNat (IntKind.wrap IntKind.i64 (n + (1 : Int) : Int))) (List.take (List.length (Q.rowH l)) (Q.rowH l)))) : Nat) * 88 : Nat) : Nat) ≤ 140737488355328) ∧
 (((((List.length (List.drop 0 (List.take (Int.toNat n) (Q.rowH l)))) + (List.length (List.drop (Int.toNat (IntKind.wrap IntKind.i64 (n + (1 : Int) : Int))) (List.take (List.length (Q.rowH l)) (Q.rowH l)))) : Nat) : Nat) ≤ 9223372036854775807) ∧
 ((∀ (y : (List AV)), ((List.Mem y (List.drop (Int.toNat (IntKind.wrap IntKind.i64 (n + (1 : Int) : Int))) (List.take (List.length (Q.rowH l)) (Q.rowH l)))) → ((List.length y) = (8 : Nat)))) ∧
 ((Bool.true = (Bool.true : Bool)) ∧
 (((AV.tup [(AV.ag [(AV.i IntKind.i64 a), (AV.i IntKind.i64 b), (AV.i IntKind.i64 c), (AV.sl ((List.drop 0 (List.take (Int.toNat n) (Q.rowH l))) ++ (List.drop (Int.toNat (IntKind.wrap IntKind.i64 (n + (1 : Int) : Int))) (List.take (List.length (Q.rowH l)) (Q.rowH l))) : (List (List AV))))]), (AV.i IntKind.i64 (0 : Int))]) = (v : AV)) ∧
 (([] : List (Prod Nat Blk)) = (([] : List (Prod Nat Blk)) : Heap))))))))))))))))))))))
theorem vRl_eq (a b c : Int) (l : List Held) (m : Mom) (v : AV) : vRl a b c l m v = (evF Try.prog TQ Try.f58 [] noK [qAV a b c (rowH l), .ag [.s m.p, .s m.t], .i .i64 m.e, .i .i64 m.now] [] [] v []) := by kernel_rfl

def vCh (a b c : Int) (l : List Held) (m : Mom) (v : AV) : Prop :=
 (∃ x : Bool, ((ACalls Try.prog 17 [(AV.ag [(AV.i IntKind.i64 a), (AV.i IntKind.i64 b), (AV.i IntKind.i64 c), (AV.sl (Q.rowH l))])] ([] : List (Prod Nat Blk)) (AV.b x) ([] : List (Prod Nat Blk))) ∧
 (brP (!x) (((AV.tup [(AV.ag [(AV.i IntKind.i64 (0 : Int)), (AV.i IntKind.i64 (0 : Int)), (AV.i IntKind.i64 (0 : Int)), (AV.sl ([] : List (List AV)))]), (AV.i IntKind.i64 (1 : Int))]) = (v : AV)) ∧
 (([] : List (Prod Nat Blk)) = (([] : List (Prod Nat Blk)) : Heap))) (∃ n : Int, ((ACalls Try.prog 76 [(AV.ag [(AV.i IntKind.i64 a), (AV.i IntKind.i64 b), (AV.i IntKind.i64 c), (AV.sl (Q.rowH l))]), (AV.ag [(AV.s (m).1), (AV.s (m).2)]), (AV.i IntKind.i64 (m).3), (AV.i IntKind.i64 (m).4)] ([] : List (Prod Nat Blk)) (AV.i IntKind.i64 n) ([] : List (Prod Nat Blk))) ∧
 (brP (decide ((n : Int) < (0 : Int))) (((AV.tup [(AV.ag [(AV.i IntKind.i64 (0 : Int)), (AV.i IntKind.i64 (0 : Int)), (AV.i IntKind.i64 (0 : Int)), (AV.sl ([] : List (List AV)))]), (AV.i IntKind.i64 (18 : Int))]) = (v : AV)) ∧
 (([] : List (Prod Nat Blk)) = (([] : List (Prod Nat Blk)) : Heap))) ((((0 : Int) : Int) ≤ n) ∧
 (((n : Int) < (((List.length (Q.rowH l)) : Nat) : Int)) ∧
 (∃ x1 : ByteArray, (∃ x2 : ByteArray, (∃ n1 : Int, (∃ x3 : ByteArray, (∃ n2 : Int, (∃ n3 : Int, (∃ n4 : Int, (∃ n5 : Int, ((((Q.rowH l))[(Int.toNat n)]? = ((Option.some [(AV.s x1), (AV.s x2), (AV.i IntKind.i64 n1), (AV.s x3), (AV.i IntKind.i64 n2), (AV.i IntKind.i64 n3), (AV.i IntKind.i64 n4), (AV.i IntKind.i64 n5)]) : (Option (List AV)))) ∧
 (((List.length (([(AV.s x1)] ++ ([(AV.s x2)] ++ ([] : List AV) : (List AV)) : (List AV)) ++ ([(AV.i IntKind.i64 n1)] ++ ([(AV.s x3)] ++ ([(AV.i IntKind.i64 n2)] ++ ([(AV.i IntKind.i64 n3)] ++ ([(AV.i IntKind.i64 n4)] ++ ([(AV.i IntKind.i64 n5)] ++ ([] : List AV) : (List AV)) : (List AV)) : (List AV)) : (List AV)) : (List AV)) : (List AV)) : (List AV))) = (8 : Nat)) ∧
 (brP (decide (n5 = ((1073741824 : Int) : Int))) (((AV.tup [(AV.ag [(AV.i IntKind.i64 (0 : Int)), (AV.i IntKind.i64 (0 : Int)), (AV.i IntKind.i64 (0 : Int)), (AV.sl ([] : List (List AV)))]), (AV.i IntKind.i64 (2 : Int))]) = (v : AV)) ∧
 (([] : List (Prod Nat Blk)) = (([] : List (Prod Nat Blk)) : Heap))) (∃ n6 : Int, (∃ n7 : Int, (∃ n8 : Int, (∃ xs : (List (List AV)), ((ACalls Try.prog 77 [(AV.ag [(AV.i IntKind.i64 a), (AV.i IntKind.i64 b), (AV.i IntKind.i64 c), (AV.sl (Q.rowH l))]), (AV.i IntKind.i64 n), (AV.ag [(AV.s x1), (AV.s x2), (AV.i IntKind.i64 n1), (AV.s x3), (AV.i IntKind.i64 n2), (AV.i IntKind.i64 n3), (AV.i IntKind.i64 n4), (AV.i IntKind.i64 (IntKind.wrap IntKind.i64 (n5 + (1 : Int) : Int)))])] ([] : List (Prod Nat Blk)) (AV.ag ([(AV.i IntKind.i64 n6)] ++ ([(AV.i IntKind.i64 n7)] ++ ([(AV.i IntKind.i64 n8)] ++ ([(AV.sl xs)] ++ ([] : List AV) : (List AV)) : (List AV)) : (List AV)) : (List AV))) ([] : List (Prod Nat Blk))) ∧
 (((AV.tup [(AV.ag [(AV.i IntKind.i64 n6), (AV.i IntKind.i64 n7), (AV.i IntKind.i64 n8), (AV.sl xs)]), (AV.i IntKind.i64 (0 : Int))]) = (v : AV)) ∧
 (([] : List (Prod Nat Blk)) = (([] : List (Prod Nat Blk)) : Heap)))))))))))))))))))))))))))
theorem vCh_eq (a b c : Int) (l : List Held) (m : Mom) (v : AV) : vCh a b c l m v = (evF Try.prog TQ Try.f59 [] noK [qAV a b c (rowH l), .ag [.s m.p, .s m.t], .i .i64 m.e, .i .i64 m.now] [] [] v []) := by kernel_rfl

def cE2 : List (Nat × (List (Nat × (Nat × Nat)) × List Nat)) := [(5, ([(7, (41, 8)), (8, (41, 8))], [1,2,4,7,8,9]))]
def iE2 (a b c now : Int) (l le en : List Held) (j : Nat) : St := { t := [(1, .i .i64 now), (2, .ptr 0 0), (4, .ptr 1 0), (7, .own 2), (8, .own 3), (9, .i .i64 j)], σ := [(0, .cells [.i .i64 a, .i .i64 b, .i .i64 c, .sl (rowH l)]), (1, .cells [.i .i64 0, .i .i64 0, .i .i64 0, .sl []]), (2, .row 41 8 (rowH le)), (3, .row 41 8 (rowH en))], n := 4, m := 49 }
def vE2 (a b c now : Int) (l : List Held) (I : Nat → St → Prop) (v : AV) : Prop :=
 (∃ x : Bool, ((ACalls Try.prog 17 [(AV.ag [(AV.i IntKind.i64 a), (AV.i IntKind.i64 b), (AV.i IntKind.i64 c), (AV.sl (Q.rowH l))])] ([] : List (Prod Nat Blk)) (AV.b x) ([] : List (Prod Nat Blk))) ∧
 (brP (!x) (((AV.tup [(AV.ag [(AV.i IntKind.i64 (0 : Int)), (AV.i IntKind.i64 (0 : Int)), (AV.i IntKind.i64 (0 : Int)), (AV.sl ([] : List (List AV)))]), (AV.sl ([] : List (List AV))), (AV.i IntKind.i64 (1 : Int))]) = (v : AV)) ∧
 (([] : List (Prod Nat Blk)) = (([] : List (Prod Nat Blk)) : Heap))) ((AtL (hd Try.f60 5) (hd Try.f60 5)) ∧
 (I 5 { t := [(1, (AV.i IntKind.i64 now)), (2, (AV.ptr 0 0)), (4, (AV.ptr 1 0)), (7, (AV.own 2)), (8, (AV.own 3)), (9, (AV.i IntKind.i64 (0 : Int)))], σ := [(0, (Blk.cells [(AV.i IntKind.i64 a), (AV.i IntKind.i64 b), (AV.i IntKind.i64 c), (AV.sl (Q.rowH l))])), (1, (Blk.cells [(AV.i IntKind.i64 (0 : Int)), (AV.i IntKind.i64 (0 : Int)), (AV.i IntKind.i64 (0 : Int)), (AV.sl ([] : List (List AV)))])), (2, (Blk.row 41 8 ([] : List (List AV)))), (3, (Blk.row 41 8 ([] : List (List AV))))], n := 4, m := 49 : St})))))
theorem vE2_eq (a b c now : Int) (l : List Held) (I : Nat → St → Prop) (v : AV) : vE2 a b c now l I v = (evF Try.prog TQ Try.f60 [] (cutA 0 Try.f60 cE2 I) [qAV a b c (rowH l), .i .i64 now] [] [] v []) := by kernel_rfl

def vE2L (a b c now : Int) (l le en : List Held) (j : Nat) (I : Nat → St → Prop) (v : AV) : Prop :=
 (brP (decide ((((j : Nat) : Int) : Int) < (((List.length (Q.rowH l)) : Nat) : Int))) ((((0 : Int) : Int) ≤ ((j : Nat) : Int)) ∧
 (((((j : Nat) : Int) : Int) < (((List.length (Q.rowH l)) : Nat) : Int)) ∧
 (∃ x : ByteArray, (∃ x1 : ByteArray, (∃ n : Int, (∃ x2 : ByteArray, (∃ n1 : Int, (∃ n2 : Int, (∃ n3 : Int, (∃ n4 : Int, ((((Q.rowH l))[(Int.toNat ((j : Nat) : Int))]? = ((Option.some [(AV.s x), (AV.s x1), (AV.i IntKind.i64 n), (AV.s x2), (AV.i IntKind.i64 n1), (AV.i IntKind.i64 n2), (AV.i IntKind.i64 n3), (AV.i IntKind.i64 n4)]) : (Option (List AV)))) ∧
 (((List.length (([(AV.s x)] ++ ([(AV.s x1)] ++ ([] : List AV) : (List AV)) : (List AV)) ++ ([(AV.i IntKind.i64 n)] ++ ([(AV.s x2)] ++ ([(AV.i IntKind.i64 n1)] ++ ([(AV.i IntKind.i64 n2)] ++ ([(AV.i IntKind.i64 n3)] ++ ([(AV.i IntKind.i64 n4)] ++ ([] : List AV) : (List AV)) : (List AV)) : (List AV)) : (List AV)) : (List AV)) : (List AV)) : (List AV))) = (8 : Nat)) ∧
 (brP (decide ((n2 : Int) ≤ now)) ((((0 : Int) : Int) ≤ ((j : Nat) : Int)) ∧
 (((((j : Nat) : Int) : Int) < (((List.length (Q.rowH l)) : Nat) : Int)) ∧
 (∃ x3 : ByteArray, (∃ x4 : ByteArray, (∃ n5 : Int, (∃ x5 : ByteArray, (∃ n6 : Int, (∃ n7 : Int, (∃ n8 : Int, (∃ n9 : Int, ((((Q.rowH l))[(Int.toNat ((j : Nat) : Int))]? = ((Option.some [(AV.s x3), (AV.s x4), (AV.i IntKind.i64 n5), (AV.s x5), (AV.i IntKind.i64 n6), (AV.i IntKind.i64 n7), (AV.i IntKind.i64 n8), (AV.i IntKind.i64 n9)]) : (Option (List AV)))) ∧
 (((List.length (([(AV.s x3)] ++ ([(AV.s x4)] ++ ([] : List AV) : (List AV)) : (List AV)) ++ ([(AV.i IntKind.i64 n5)] ++ ([(AV.s x5)] ++ ([(AV.i IntKind.i64 n6)] ++ ([(AV.i IntKind.i64 n7)] ++ ([(AV.i IntKind.i64 n8)] ++ ([(AV.i IntKind.i64 n9)] ++ ([] : List AV) : (List AV)) : (List AV)) : (List AV)) : (List AV)) : (List AV)) : (List AV)) : (List AV))) = (8 : Nat)) ∧
 ((((((List.length (Q.rowH en)) + 1 : Nat) * 88 : Nat) : Nat) ≤ 140737488355328) ∧
 (((((List.length (Q.rowH en)) + 1 : Nat) : Nat) ≤ 9223372036854775807) ∧
 ((∀ (y : (List AV)), ((List.Mem y [[(AV.s x3), (AV.s x4), (AV.i IntKind.i64 n5), (AV.s x5), (AV.i IntKind.i64 n6), (AV.i IntKind.i64 n7), (AV.i IntKind.i64 n8), (AV.i IntKind.i64 n9)]]) → ((List.length y) = (8 : Nat)))) ∧
 ((AtL (hd Try.f60 5) (hd Try.f60 5)) ∧
 (I 5 { t := [(1, (AV.i IntKind.i64 now)), (2, (AV.ptr 0 0)), (4, (AV.ptr 1 0)), (7, (AV.own 2)), (8, (AV.own 3)), (9, (AV.i IntKind.i64 (IntKind.wrap IntKind.i64 (((j : Nat) : Int) + (1 : Int) : Int))))], σ := [(0, (Blk.cells [(AV.i IntKind.i64 a), (AV.i IntKind.i64 b), (AV.i IntKind.i64 c), (AV.sl (Q.rowH l))])), (1, (Blk.cells [(AV.i IntKind.i64 (0 : Int)), (AV.i IntKind.i64 (0 : Int)), (AV.i IntKind.i64 (0 : Int)), (AV.sl ([] : List (List AV)))])), (2, (Blk.row 41 8 (Q.rowH le))), (3, (Blk.row 41 8 ((Q.rowH en) ++ [[(AV.s x3), (AV.s x4), (AV.i IntKind.i64 n5), (AV.s x5), (AV.i IntKind.i64 n6), (AV.i IntKind.i64 n7), (AV.i IntKind.i64 n8), (AV.i IntKind.i64 n9)]] : (List (List AV)))))], n := 4, m := 49 : St}))))))))))))))))) ((((0 : Int) : Int) ≤ ((j : Nat) : Int)) ∧
 (((((j : Nat) : Int) : Int) < (((List.length (Q.rowH l)) : Nat) : Int)) ∧
 (∃ x3 : ByteArray, (∃ x4 : ByteArray, (∃ n5 : Int, (∃ x5 : ByteArray, (∃ n6 : Int, (∃ n7 : Int, (∃ n8 : Int, (∃ n9 : Int, ((((Q.rowH l))[(Int.toNat ((j : Nat) : Int))]? = ((Option.some [(AV.s x3), (AV.s x4), (AV.i IntKind.i64 n5), (AV.s x5), (AV.i IntKind.i64 n6), (AV.i IntKind.i64 n7), (AV.i IntKind.i64 n8), (AV.i IntKind.i64 n9)]) : (Option (List AV)))) ∧
 (((List.length (([(AV.s x3)] ++ ([(AV.s x4)] ++ ([] : List AV) : (List AV)) : (List AV)) ++ ([(AV.i IntKind.i64 n5)] ++ ([(AV.s x5)] ++ ([(AV.i IntKind.i64 n6)] ++ ([(AV.i IntKind.i64 n7)] ++ ([(AV.i IntKind.i64 n8)] ++ ([(AV.i IntKind.i64 n9)] ++ ([] : List AV) : (List AV)) : (List AV)) : (List AV)) : (List AV)) : (List AV)) : (List AV)) : (List AV))) = (8 : Nat)) ∧
 ((((((List.length (Q.rowH le)) + 1 : Nat) * 88 : Nat) : Nat) ≤ 140737488355328) ∧
 (((((List.length (Q.rowH le)) + 1 : Nat) : Nat) ≤ 9223372036854775807) ∧
 ((∀ (y : (List AV)), ((List.Mem y [[(AV.s x3), (AV.s x4), (AV.i IntKind.i64 n5), (AV.s x5), (AV.i IntKind.i64 n6), (AV.i IntKind.i64 n7), (AV.i IntKind.i64 n8), (AV.i IntKind.i64 n9)]]) → ((List.length y) = (8 : Nat)))) ∧
 ((AtL (hd Try.f60 5) (hd Try.f60 5)) ∧
 (I 5 { t := [(1, (AV.i IntKind.i64 now)), (2, (AV.ptr 0 0)), (4, (AV.ptr 1 0)), (7, (AV.own 2)), (8, (AV.own 3)), (9, (AV.i IntKind.i64 (IntKind.wrap IntKind.i64 (((j : Nat) : Int) + (1 : Int) : Int))))], σ := [(0, (Blk.cells [(AV.i IntKind.i64 a), (AV.i IntKind.i64 b), (AV.i IntKind.i64 c), (AV.sl (Q.rowH l))])), (1, (Blk.cells [(AV.i IntKind.i64 (0 : Int)), (AV.i IntKind.i64 (0 : Int)), (AV.i IntKind.i64 (0 : Int)), (AV.sl ([] : List (List AV)))])), (2, (Blk.row 41 8 ((Q.rowH le) ++ [[(AV.s x3), (AV.s x4), (AV.i IntKind.i64 n5), (AV.s x5), (AV.i IntKind.i64 n6), (AV.i IntKind.i64 n7), (AV.i IntKind.i64 n8), (AV.i IntKind.i64 n9)]] : (List (List AV))))), (3, (Blk.row 41 8 (Q.rowH en)))], n := 4, m := 49 : St})))))))))))))))))))))))))))))) (((AV.tup [(AV.ag [(AV.i IntKind.i64 a), (AV.i IntKind.i64 b), (AV.i IntKind.i64 c), (AV.sl (Q.rowH le))]), (AV.sl (Q.rowH en)), (AV.i IntKind.i64 (0 : Int))]) = (v : AV)) ∧
 (([] : List (Prod Nat Blk)) = (([] : List (Prod Nat Blk)) : Heap))))
theorem vE2L_eq (a b c now : Int) (l le en : List Held) (j : Nat) (I : Nat → St → Prop) (v : AV) : vE2L a b c now l le en j I v = (evL Try.prog TQ Try.f60 [] (cutA 0 Try.f60 cE2 I) 5 (iE2 a b c now l le en j) 0 [] v []) := by kernel_rfl

end Go.AM.Q
