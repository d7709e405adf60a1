/- Quarantine: conditions of the reference's functions. Quarantine: the plain law of its order, of Check and of the place of a new entry; nothing of the program's code. Quarantine: contracts of the reference's functions; what they compute is what the program computes. Quarantine: conditions of the loop of the reference's Renew. Quarantine: contracts of the reference's Load, Active, Release, Charge, Renew and Expire: what the program computes. Quarantine: contracts of the reference's Renew and Add: what the program computes. Quarantine: conditions of the law's sanity check and of its first law. Quarantine: the law's sanity check holds, and so does its first law. -/
import Derived.Test.YthcpekjcnokonaaZ2
import Derived.KernelRfl
import Derived.Lib.Bytealg
set_option maxRecDepth 100000
set_option linter.unusedVariables false
namespace Go.AM.Q
open Go.Proofs
--BEGIN
def vUsa (x y : ByteArray) (v : AV) : Prop :=
 (brP (decide (((0 : Int) : Int) < (((ByteArray.size x) : Nat) : Int))) (brP (decide (((((ByteArray.size x) : Nat) : Int) : Int) ≤ (24 : Int))) (brP (decide (((0 : Int) : Int) < (((ByteArray.size y) : Nat) : Int))) (((AV.b (decide (((((ByteArray.size y) : Nat) : Int) : Int) ≤ (24 : Int)))) = (v : AV)) ∧
 (([] : List (Prod Nat Blk)) = (([] : List (Prod Nat Blk)) : Heap))) (((AV.b Bool.false) = (v : AV)) ∧
 (([] : List (Prod Nat Blk)) = (([] : List (Prod Nat Blk)) : Heap)))) (((AV.b Bool.false) = (v : AV)) ∧
 (([] : List (Prod Nat Blk)) = (([] : List (Prod Nat Blk)) : Heap)))) (((AV.b Bool.false) = (v : AV)) ∧
 (([] : List (Prod Nat Blk)) = (([] : List (Prod Nat Blk)) : Heap))))
theorem vUsa_eq (x y : ByteArray) (v : AV) : vUsa x y v = (evF Try.prog T0 Try.f64 [] noK [.ag [.s x, .s y]] [] [] v []) := by kernel_rfl

def vPla (n : Int) (v : AV) : Prop :=
 (brP (decide (((0 : Int) : Int) ≤ n)) (((AV.b (decide ((n : Int) ≤ (63 : Int)))) = (v : AV)) ∧
 (([] : List (Prod Nat Blk)) = (([] : List (Prod Nat Blk)) : Heap))) (((AV.b Bool.false) = (v : AV)) ∧
 (([] : List (Prod Nat Blk)) = (([] : List (Prod Nat Blk)) : Heap))))
theorem vPla_eq (n : Int) (v : AV) : vPla n v = (evF Try.prog T0 Try.f65 [] noK [.i .i64 n] [] [] v []) := by kernel_rfl

def vUsb (x y o : ByteArray) (n : Int) (v : AV) : Prop :=
 (∃ x1 : Bool, ((ACalls Try.prog 64 [(AV.ag [(AV.s x), (AV.s y)])] ([] : List (Prod Nat Blk)) (AV.b x1) ([] : List (Prod Nat Blk))) ∧
 (brP x1 (∃ x2 : Bool, ((ACalls Try.prog 65 [(AV.i IntKind.i64 n)] ([] : List (Prod Nat Blk)) (AV.b x2) ([] : List (Prod Nat Blk))) ∧
 (brP x2 (brP (decide (((0 : Int) : Int) < (((ByteArray.size o) : Nat) : Int))) (((AV.b (decide (((((ByteArray.size o) : Nat) : Int) : Int) ≤ (24 : Int)))) = (v : AV)) ∧
 (([] : List (Prod Nat Blk)) = (([] : List (Prod Nat Blk)) : Heap))) (((AV.b Bool.false) = (v : AV)) ∧
 (([] : List (Prod Nat Blk)) = (([] : List (Prod Nat Blk)) : Heap)))) (((AV.b Bool.false) = (v : AV)) ∧
 (([] : List (Prod Nat Blk)) = (([] : List (Prod Nat Blk)) : Heap)))))) (((AV.b Bool.false) = (v : AV)) ∧
 (([] : List (Prod Nat Blk)) = (([] : List (Prod Nat Blk)) : Heap))))))
theorem vUsb_eq (x y o : ByteArray) (n : Int) (v : AV) : vUsb x y o n v = (evF Try.prog T0 Try.f36 [] noK [.ag [.s x, .s y], .i .i64 n, .s o] [] [] v []) := by kernel_rfl

def vSame (h k : Held) (v : AV) : Prop :=
 (brP (Bool.and (strEq (h).1 (k).1) (Bool.and (strEq (h).2 (k).2) Bool.true)) (((AV.b (decide ((h).3 = ((k).3 : Int)))) = (v : AV)) ∧
 (([] : List (Prod Nat Blk)) = (([] : List (Prod Nat Blk)) : Heap))) (((AV.b Bool.false) = (v : AV)) ∧
 (([] : List (Prod Nat Blk)) = (([] : List (Prod Nat Blk)) : Heap))))
theorem vSame_eq (h k : Held) (v : AV) : vSame h k v = (evF Try.prog T0 Try.f66 [] noK [.ag h.cells, .ag k.cells] [] [] v []) := by kernel_rfl

def vMeet (h k : Held) (v : AV) : Prop :=
 (∃ x : Bool, ((ACalls Try.prog 66 [(AV.ag [(AV.s (h).1), (AV.s (h).2), (AV.i IntKind.i64 (h).3), (AV.s (h).4), (AV.i IntKind.i64 (h).5), (AV.i IntKind.i64 (h).6), (AV.i IntKind.i64 (h).7), (AV.i IntKind.i64 (h).8)]), (AV.ag [(AV.s (k).1), (AV.s (k).2), (AV.i IntKind.i64 (k).3), (AV.s (k).4), (AV.i IntKind.i64 (k).5), (AV.i IntKind.i64 (k).6), (AV.i IntKind.i64 (k).7), (AV.i IntKind.i64 (k).8)])] ([] : List (Prod Nat Blk)) (AV.b x) ([] : List (Prod Nat Blk))) ∧
 (brP x (brP (decide (((h).5 : Int) < (k).6)) (((AV.b (decide (((k).5 : Int) < (h).6))) = (v : AV)) ∧
 (([] : List (Prod Nat Blk)) = (([] : List (Prod Nat Blk)) : Heap))) (((AV.b Bool.false) = (v : AV)) ∧
 (([] : List (Prod Nat Blk)) = (([] : List (Prod Nat Blk)) : Heap)))) (((AV.b Bool.false) = (v : AV)) ∧
 (([] : List (Prod Nat Blk)) = (([] : List (Prod Nat Blk)) : Heap))))))
theorem vMeet_eq (h k : Held) (v : AV) : vMeet h k v = (evF Try.prog T0 Try.f38 [] noK [.ag h.cells, .ag k.cells] [] [] v []) := by kernel_rfl

def vCSt (x y : ByteArray) (v : AV) : Prop :=
 (∃ n : Int, ((NCalls Try.prog 83 ((([] : List AV) ++ [(AV.s x), (AV.s y)] : (List AV)) ++ ([] : List AV) : (List AV)) (restr ([] : List Nat) ([] : List (Prod Nat Blk))) (AV.i IntKind.i64 n)) ∧
 (((AV.i IntKind.i64 n) = (v : AV)) ∧
 (([] : List (Prod Nat Blk)) = (([] : List (Prod Nat Blk)) : Heap)))))
theorem vCSt_eq (x y : ByteArray) (v : AV) : vCSt x y v = (evF Try.prog T0 Try.f81 [] noK [.s x, .s y] [] [] v []) := by kernel_rfl

def vSCo (x y : ByteArray) (v : AV) : Prop :=
 (∃ n : Int, ((ACalls Try.prog 81 [(AV.s x), (AV.s y)] ([] : List (Prod Nat Blk)) (AV.i IntKind.i64 n) ([] : List (Prod Nat Blk))) ∧
 (((AV.i IntKind.i64 n) = (v : AV)) ∧
 (([] : List (Prod Nat Blk)) = (([] : List (Prod Nat Blk)) : Heap)))))
theorem vSCo_eq (x y : ByteArray) (v : AV) : vSCo x y v = (evF Try.prog T0 Try.f78 [] noK [.s x, .s y] [] [] v []) := by kernel_rfl

def vOrder (x y x' y' : ByteArray) (v : AV) : Prop :=
 (∃ n : Int, ((ACalls Try.prog 78 [(AV.s x), (AV.s x')] ([] : List (Prod Nat Blk)) (AV.i IntKind.i64 n) ([] : List (Prod Nat Blk))) ∧
 (brP (!(decide (n = ((0 : Int) : Int)))) (((AV.i IntKind.i64 n) = (v : AV)) ∧
 (([] : List (Prod Nat Blk)) = (([] : List (Prod Nat Blk)) : Heap))) (∃ n1 : Int, ((ACalls Try.prog 78 [(AV.s y), (AV.s y')] ([] : List (Prod Nat Blk)) (AV.i IntKind.i64 n1) ([] : List (Prod Nat Blk))) ∧
 (((AV.i IntKind.i64 n1) = (v : AV)) ∧
 (([] : List (Prod Nat Blk)) = (([] : List (Prod Nat Blk)) : Heap))))))))
theorem vOrder_eq (x y x' y' : ByteArray) (v : AV) : vOrder x y x' y' v = (evF Try.prog T0 Try.f67 [] noK [.ag [.s x, .s y], .ag [.s x', .s y']] [] [] v []) := by kernel_rfl

def vLess (h k : Held) (v : AV) : Prop :=
 (∃ n : Int, ((ACalls Try.prog 67 [(AV.ag [(AV.s (h).1), (AV.s (h).2)]), (AV.ag [(AV.s (k).1), (AV.s (k).2)])] ([] : List (Prod Nat Blk)) (AV.i IntKind.i64 n) ([] : List (Prod Nat Blk))) ∧
 (brP (!(decide (n = ((0 : Int) : Int)))) (((AV.b (decide ((n : Int) < (0 : Int)))) = (v : AV)) ∧
 (([] : List (Prod Nat Blk)) = (([] : List (Prod Nat Blk)) : Heap))) (brP (!(decide ((h).3 = ((k).3 : Int)))) (((AV.b (decide (((h).3 : Int) < (k).3))) = (v : AV)) ∧
 (([] : List (Prod Nat Blk)) = (([] : List (Prod Nat Blk)) : Heap))) (((AV.b (decide (((h).5 : Int) < (k).5))) = (v : AV)) ∧
 (([] : List (Prod Nat Blk)) = (([] : List (Prod Nat Blk)) : Heap)))))))
theorem vLess_eq (h k : Held) (v : AV) : vLess h k v = (evF Try.prog T0 Try.f39 [] noK [.ag h.cells, .ag k.cells] [] [] v []) := by kernel_rfl

def cOw : List (Nat × (List (Nat × (Nat × Nat)) × List Nat)) := [(3, ([], [1,2,5,6]))]
def iOw (a b c : Int) (l : List Held) (o : ByteArray) (n : Int) (j : Nat) : St := { t := [(1, .s o), (2, .ptr 0 0), (5, .i .i64 n), (6, .i .i64 j)], σ := [(0, .cells [.i .i64 a, .i .i64 b, .i .i64 c, .sl (rowH l)])], n := 1, m := 25 }
def vOw (a b c : Int) (l : List Held) (o : ByteArray) (I : Nat → St → Prop) (v : AV) : Prop :=
 ((AtL (hd Try.f37 3) (hd Try.f37 3)) ∧
 (I 3 { t := [(1, (AV.s o)), (2, (AV.ptr 0 0)), (5, (AV.i IntKind.i64 (0 : Int))), (6, (AV.i IntKind.i64 (0 : Int)))], σ := [(0, (Blk.cells [(AV.i IntKind.i64 a), (AV.i IntKind.i64 b), (AV.i IntKind.i64 c), (AV.sl (Q.rowH l))]))], n := 1, m := 25 : St}))
theorem vOw_eq (a b c : Int) (l : List Held) (o : ByteArray) (I : Nat → St → Prop) (v : AV) : vOw a b c l o I v = (evF Try.prog T0 Try.f37 [] (cutA 0 Try.f37 cOw I) [qAV a b c (rowH l), .s o] [] [] v []) := by kernel_rfl

def vOwL (a b c : Int) (l : List Held) (o : ByteArray) (n : Int) (j : Nat) (I : Nat → St → Prop) (v : AV) : Prop :=
 (brP (decide ((((j : Nat) : Int) : Int) < (((List.length (Q.rowH l)) : Nat) : Int))) ((((0 : Int) : Int) ≤ ((j : Nat) : Int)) ∧
 (((((j : Nat) : Int) : Int) < (((List.length (Q.rowH l)) : Nat) : Int)) ∧
 (∃ x : ByteArray, (∃ x1 : ByteArray, (∃ n1 : Int, (∃ x2 : ByteArray, (∃ n2 : Int, (∃ n3 : Int, (∃ n4 : Int, (∃ n5 : Int, ((((Q.rowH l))[(Int.toNat ((j : Nat) : Int))]? = ((Option.some [(AV.s x), (AV.s x1), (AV.i IntKind.i64 n1), (AV.s x2), (AV.i IntKind.i64 n2), (AV.i IntKind.i64 n3), (AV.i IntKind.i64 n4), (AV.i IntKind.i64 n5)]) : (Option (List AV)))) ∧
 (((List.length (([(AV.s x)] ++ ([(AV.s x1)] ++ ([] : List AV) : (List AV)) : (List AV)) ++ ([(AV.i IntKind.i64 n1)] ++ ([(AV.s x2)] ++ ([(AV.i IntKind.i64 n2)] ++ ([(AV.i IntKind.i64 n3)] ++ ([(AV.i IntKind.i64 n4)] ++ ([(AV.i IntKind.i64 n5)] ++ ([] : List AV) : (List AV)) : (List AV)) : (List AV)) : (List AV)) : (List AV)) : (List AV)) : (List AV))) = (8 : Nat)) ∧
 (brP (strEq x2 o) ((AtL (hd Try.f37 3) (hd Try.f37 3)) ∧
 (I 3 { t := [(1, (AV.s o)), (2, (AV.ptr 0 0)), (5, (AV.i IntKind.i64 (IntKind.wrap IntKind.i64 (n + (1 : Int) : Int)))), (6, (AV.i IntKind.i64 (IntKind.wrap IntKind.i64 (((j : Nat) : Int) + (1 : Int) : Int))))], σ := [(0, (Blk.cells [(AV.i IntKind.i64 a), (AV.i IntKind.i64 b), (AV.i IntKind.i64 c), (AV.sl (Q.rowH l))]))], n := 1, m := 25 : St})) ((AtL (hd Try.f37 3) (hd Try.f37 3)) ∧
 (I 3 { t := [(1, (AV.s o)), (2, (AV.ptr 0 0)), (5, (AV.i IntKind.i64 n)), (6, (AV.i IntKind.i64 (IntKind.wrap IntKind.i64 (((j : Nat) : Int) + (1 : Int) : Int))))], σ := [(0, (Blk.cells [(AV.i IntKind.i64 a), (AV.i IntKind.i64 b), (AV.i IntKind.i64 c), (AV.sl (Q.rowH l))]))], n := 1, m := 25 : St}))))))))))))))) (((AV.i IntKind.i64 n) = (v : AV)) ∧
 (([] : List (Prod Nat Blk)) = (([] : List (Prod Nat Blk)) : Heap))))
theorem vOwL_eq (a b c : Int) (l : List Held) (o : ByteArray) (n : Int) (j : Nat) (I : Nat → St → Prop) (v : AV) : vOwL a b c l o n j I v = (evL Try.prog T0 Try.f37 [] (cutA 0 Try.f37 cOw I) 3 (iOw a b c l o n j) 0 [] v []) := by kernel_rfl

def cFi : List (Nat × (List (Nat × (Nat × Nat)) × List Nat)) := [(2, ([], [2,3,4,5,9]))]
def iFi (a b c : Int) (l : List Held) (m : Mom) (j : Nat) : St := { t := [(2, .i .i64 m.e), (3, .i .i64 m.now), (4, .ptr 0 0), (5, .ptr 1 0), (9, .i .i64 j)], σ := [(0, .cells [.i .i64 a, .i .i64 b, .i .i64 c, .sl (rowH l)]), (1, .cells [.s m.p, .s m.t])], n := 2, m := 46 }
def vFi (a b c : Int) (l : List Held) (m : Mom) (I : Nat → St → Prop) (v : AV) : Prop :=
 ((AtL (hd Try.f76 2) (hd Try.f76 2)) ∧
 (I 2 { t := [(2, (AV.i IntKind.i64 (m).3)), (3, (AV.i IntKind.i64 (m).4)), (4, (AV.ptr 0 0)), (5, (AV.ptr 1 0)), (9, (AV.i IntKind.i64 (0 : Int)))], σ := [(0, (Blk.cells [(AV.i IntKind.i64 a), (AV.i IntKind.i64 b), (AV.i IntKind.i64 c), (AV.sl (Q.rowH l))])), (1, (Blk.cells [(AV.s (m).1), (AV.s (m).2)]))], n := 2, m := 46 : St}))
theorem vFi_eq (a b c : Int) (l : List Held) (m : Mom) (I : Nat → St → Prop) (v : AV) : vFi a b c l m I v = (evF Try.prog T0 Try.f76 [] (cutA 0 Try.f76 cFi I) [qAV a b c (rowH l), .ag [.s m.p, .s m.t], .i .i64 m.e, .i .i64 m.now] [] [] v []) := by kernel_rfl

def vFiL (a b c : Int) (l : List Held) (m : Mom) (j : Nat) (I : Nat → St → Prop) (v : AV) : Prop :=
 (brP (decide ((((j : Nat) : Int) : Int) < (((List.length (Q.rowH l)) : Nat) : Int))) ((((0 : Int) : Int) ≤ ((j : Nat) : Int)) ∧
 (((((j : Nat) : Int) : Int) < (((List.length (Q.rowH l)) : Nat) : Int)) ∧
 (∃ x : ByteArray, (∃ x1 : ByteArray, (∃ n : Int, (∃ x2 : ByteArray, (∃ n1 : Int, (∃ n2 : Int, (∃ n3 : Int, (∃ n4 : Int, ((((Q.rowH l))[(Int.toNat ((j : Nat) : Int))]? = ((Option.some [(AV.s x), (AV.s x1), (AV.i IntKind.i64 n), (AV.s x2), (AV.i IntKind.i64 n1), (AV.i IntKind.i64 n2), (AV.i IntKind.i64 n3), (AV.i IntKind.i64 n4)]) : (Option (List AV)))) ∧
 (((List.length (([(AV.s x)] ++ ([(AV.s x1)] ++ ([] : List AV) : (List AV)) : (List AV)) ++ ([(AV.i IntKind.i64 n)] ++ ([(AV.s x2)] ++ ([(AV.i IntKind.i64 n1)] ++ ([(AV.i IntKind.i64 n2)] ++ ([(AV.i IntKind.i64 n3)] ++ ([(AV.i IntKind.i64 n4)] ++ ([] : List AV) : (List AV)) : (List AV)) : (List AV)) : (List AV)) : (List AV)) : (List AV)) : (List AV))) = (8 : Nat)) ∧
 (brP (Bool.and (strEq x (m).1) (Bool.and (strEq x1 (m).2) Bool.true)) (brP (decide (n = ((m).3 : Int))) (brP (decide ((n1 : Int) ≤ (m).4)) (brP (decide (((m).4 : Int) < n2)) (((AV.i IntKind.i64 ((j : Nat) : Int)) = (v : AV)) ∧
 (([] : List (Prod Nat Blk)) = (([] : List (Prod Nat Blk)) : Heap))) ((AtL (hd Try.f76 2) (hd Try.f76 2)) ∧
 (I 2 { t := [(2, (AV.i IntKind.i64 (m).3)), (3, (AV.i IntKind.i64 (m).4)), (4, (AV.ptr 0 0)), (5, (AV.ptr 1 0)), (9, (AV.i IntKind.i64 (IntKind.wrap IntKind.i64 (((j : Nat) : Int) + (1 : Int) : Int))))], σ := [(0, (Blk.cells [(AV.i IntKind.i64 a), (AV.i IntKind.i64 b), (AV.i IntKind.i64 c), (AV.sl (Q.rowH l))])), (1, (Blk.cells [(AV.s (m).1), (AV.s (m).2)]))], n := 2, m := 46 : St}))) ((AtL (hd Try.f76 2) (hd Try.f76 2)) ∧
 (I 2 { t := [(2, (AV.i IntKind.i64 (m).3)), (3, (AV.i IntKind.i64 (m).4)), (4, (AV.ptr 0 0)), (5, (AV.ptr 1 0)), (9, (AV.i IntKind.i64 (IntKind.wrap IntKind.i64 (((j : Nat) : Int) + (1 : Int) : Int))))], σ := [(0, (Blk.cells [(AV.i IntKind.i64 a), (AV.i IntKind.i64 b), (AV.i IntKind.i64 c), (AV.sl (Q.rowH l))])), (1, (Blk.cells [(AV.s (m).1), (AV.s (m).2)]))], n := 2, m := 46 : St}))) ((AtL (hd Try.f76 2) (hd Try.f76 2)) ∧
 (I 2 { t := [(2, (AV.i IntKind.i64 (m).3)), (3, (AV.i IntKind.i64 (m).4)), (4, (AV.ptr 0 0)), (5, (AV.ptr 1 0)), (9, (AV.i IntKind.i64 (IntKind.wrap IntKind.i64 (((j : Nat) : Int) + (1 : Int) : Int))))], σ := [(0, (Blk.cells [(AV.i IntKind.i64 a), (AV.i IntKind.i64 b), (AV.i IntKind.i64 c), (AV.sl (Q.rowH l))])), (1, (Blk.cells [(AV.s (m).1), (AV.s (m).2)]))], n := 2, m := 46 : St}))) ((AtL (hd Try.f76 2) (hd Try.f76 2)) ∧
 (I 2 { t := [(2, (AV.i IntKind.i64 (m).3)), (3, (AV.i IntKind.i64 (m).4)), (4, (AV.ptr 0 0)), (5, (AV.ptr 1 0)), (9, (AV.i IntKind.i64 (IntKind.wrap IntKind.i64 (((j : Nat) : Int) + (1 : Int) : Int))))], σ := [(0, (Blk.cells [(AV.i IntKind.i64 a), (AV.i IntKind.i64 b), (AV.i IntKind.i64 c), (AV.sl (Q.rowH l))])), (1, (Blk.cells [(AV.s (m).1), (AV.s (m).2)]))], n := 2, m := 46 : St}))))))))))))))) (((AV.i IntKind.i64 (-1 : Int)) = (v : AV)) ∧
 (([] : List (Prod Nat Blk)) = (([] : List (Prod Nat Blk)) : Heap))))
theorem vFiL_eq (a b c : Int) (l : List Held) (m : Mom) (j : Nat) (I : Nat → St → Prop) (v : AV) : vFiL a b c l m j I v = (evL Try.prog T0 Try.f76 [] (cutA 0 Try.f76 cFi I) 2 (iFi a b c l m j) 0 [] v []) := by kernel_rfl

def vWith (a b c : Int) (l : List Held) (i : Int) (x : Held) (v : AV) : Prop :=
 (((((List.length (Q.rowH l)) * 88 : Nat) : Nat) ≤ 140737488355328) ∧
 ((((List.length (Q.rowH l)) : Nat) ≤ 9223372036854775807) ∧
 ((∀ (y : (List AV)), ((List.Mem y (Q.rowH l)) → ((List.length y) = (8 : Nat)))) ∧
 ((((0 : Int) : Int) ≤ i) ∧
 (((i : Int) < (((List.length (Q.rowH l)) : Nat) : Int)) ∧
 (∃ el : (List AV), ((((Q.rowH l))[(Int.toNat i)]? = ((Option.some el) : (Option (List AV)))) ∧
 (((8 : Nat) ≤ (List.length el)) ∧
 (((AV.ag [(AV.i IntKind.i64 a), (AV.i IntKind.i64 b), (AV.i IntKind.i64 c), (AV.sl (List.set (Q.rowH l) (Int.toNat i) (splice el 0 [(AV.s (x).1), (AV.s (x).2), (AV.i IntKind.i64 (x).3), (AV.s (x).4), (AV.i IntKind.i64 (x).5), (AV.i IntKind.i64 (x).6), (AV.i IntKind.i64 (x).7), (AV.i IntKind.i64 (x).8)])))]) = (v : AV)) ∧
 (([] : List (Prod Nat Blk)) = (([] : List (Prod Nat Blk)) : Heap)))))))))))
theorem vWith_eq (a b c : Int) (l : List Held) (i : Int) (x : Held) (v : AV) : vWith a b c l i x v = (evF Try.prog T0 Try.f77 [] noK [qAV a b c (rowH l), .i .i64 i, .ag x.cells] [] [] v []) := by kernel_rfl

def cCk : List (Nat × (List (Nat × (Nat × Nat)) × List Nat)) := [(4, ([], [1,3])), (12, ([], [1,3,4,5]))]
def iCk4 (a b c : Int) (l : List Held) (i : Nat) : St := { t := [(1, .ptr 0 0), (3, .i .i64 i)], σ := [(0, .cells [.i .i64 a, .i .i64 b, .i .i64 c, .sl (rowH l)])], n := 1, m := 122 }
def iCk12 (a b c : Int) (l : List Held) (i k : Nat) (x : Held) : St := { t := [(1, .ptr 0 0), (3, .i .i64 i), (4, .ptr 1 0), (5, .i .i64 k)], σ := [(0, .cells [.i .i64 a, .i .i64 b, .i .i64 c, .sl (rowH l)]), (1, .cells x.cells)], n := 2, m := 122 }
def vCk0 (a b c : Int) (l : List Held) (I : Nat → St → Prop) (v : AV) : Prop :=
 (∃ x : Bool, ((ACalls Try.prog 26 [(AV.i IntKind.i64 a), (AV.i IntKind.i64 b), (AV.i IntKind.i64 c)] ([] : List (Prod Nat Blk)) (AV.b x) ([] : List (Prod Nat Blk))) ∧
 (brP (!x) (((AV.b Bool.false) = (v : AV)) ∧
 (([] : List (Prod Nat Blk)) = (([] : List (Prod Nat Blk)) : Heap))) (brP (decide ((b : Int) < (((List.length (Q.rowH l)) : Nat) : Int))) (((AV.b Bool.false) = (v : AV)) ∧
 (([] : List (Prod Nat Blk)) = (([] : List (Prod Nat Blk)) : Heap))) ((AtL (hd Try.f17 4) (hd Try.f17 4)) ∧
 (I 4 { t := [(1, (AV.ptr 0 0)), (3, (AV.i IntKind.i64 (0 : Int)))], σ := [(0, (Blk.cells [(AV.i IntKind.i64 a), (AV.i IntKind.i64 b), (AV.i IntKind.i64 c), (AV.sl (Q.rowH l))]))], n := 1, m := 122 : St}))))))
theorem vCk0_eq (a b c : Int) (l : List Held) (I : Nat → St → Prop) (v : AV) : vCk0 a b c l I v = (evF Try.prog T0 Try.f17 [] (cutA 0 Try.f17 cCk I) [qAV a b c (rowH l)] [] [] v []) := by kernel_rfl

def vCk4 (a b c : Int) (l : List Held) (i : Nat) (I : Nat → St → Prop) (v : AV) : Prop :=
 (brP (decide ((((i : Nat) : Int) : Int) < (((List.length (Q.rowH l)) : Nat) : Int))) ((((0 : Int) : Int) ≤ ((i : Nat) : Int)) ∧
 (((((i : Nat) : Int) : Int) < (((List.length (Q.rowH l)) : Nat) : Int)) ∧
 (∃ x : ByteArray, (∃ x1 : ByteArray, (∃ n : Int, (∃ x2 : ByteArray, (∃ n1 : Int, (∃ n2 : Int, (∃ n3 : Int, (∃ n4 : Int, ((((Q.rowH l))[(Int.toNat ((i : Nat) : Int))]? = ((Option.some [(AV.s x), (AV.s x1), (AV.i IntKind.i64 n), (AV.s x2), (AV.i IntKind.i64 n1), (AV.i IntKind.i64 n2), (AV.i IntKind.i64 n3), (AV.i IntKind.i64 n4)]) : (Option (List AV)))) ∧
 (((List.length (([(AV.s x)] ++ ([(AV.s x1)] ++ ([] : List AV) : (List AV)) : (List AV)) ++ ([(AV.i IntKind.i64 n)] ++ ([(AV.s x2)] ++ ([(AV.i IntKind.i64 n1)] ++ ([(AV.i IntKind.i64 n2)] ++ ([(AV.i IntKind.i64 n3)] ++ ([(AV.i IntKind.i64 n4)] ++ ([] : List AV) : (List AV)) : (List AV)) : (List AV)) : (List AV)) : (List AV)) : (List AV)) : (List AV))) = (8 : Nat)) ∧
 (∃ x3 : Bool, ((ACalls Try.prog 36 [(AV.ag [(AV.s x), (AV.s x1)]), (AV.i IntKind.i64 n), (AV.s x2)] ([] : List (Prod Nat Blk)) (AV.b x3) ([] : List (Prod Nat Blk))) ∧
 (brP (!x3) (((AV.b Bool.false) = (v : AV)) ∧
 (([] : List (Prod Nat Blk)) = (([] : List (Prod Nat Blk)) : Heap))) (brP (decide ((n1 : Int) < (0 : Int))) (((AV.b Bool.false) = (v : AV)) ∧
 (([] : List (Prod Nat Blk)) = (([] : List (Prod Nat Blk)) : Heap))) (brP (decide (((1073741824 : Int) : Int) < n2)) (((AV.b Bool.false) = (v : AV)) ∧
 (([] : List (Prod Nat Blk)) = (([] : List (Prod Nat Blk)) : Heap))) (brP (decide ((n3 : Int) < (0 : Int))) (((AV.b Bool.false) = (v : AV)) ∧
 (([] : List (Prod Nat Blk)) = (([] : List (Prod Nat Blk)) : Heap))) (brP (decide (((1 : Int) : Int) < n3)) (((AV.b Bool.false) = (v : AV)) ∧
 (([] : List (Prod Nat Blk)) = (([] : List (Prod Nat Blk)) : Heap))) (brP (decide ((n4 : Int) < (0 : Int))) (((AV.b Bool.false) = (v : AV)) ∧
 (([] : List (Prod Nat Blk)) = (([] : List (Prod Nat Blk)) : Heap))) (brP (decide (((1073741824 : Int) : Int) < n4)) (((AV.b Bool.false) = (v : AV)) ∧
 (([] : List (Prod Nat Blk)) = (([] : List (Prod Nat Blk)) : Heap))) (brP (decide ((n2 : Int) ≤ n1)) ((Bool.true = (Bool.true : Bool)) ∧
 (((AV.b Bool.false) = (v : AV)) ∧
 (([] : List (Prod Nat Blk)) = (([] : List (Prod Nat Blk)) : Heap)))) (brP (decide (((IntKind.wrap IntKind.i64 (c * (IntKind.wrap IntKind.i64 ((1 : Int) + n3 : Int)) : Int)) : Int) < (IntKind.wrap IntKind.i64 (n2 - n1 : Int)))) ((Bool.true = (Bool.true : Bool)) ∧
 (((AV.b Bool.false) = (v : AV)) ∧
 (([] : List (Prod Nat Blk)) = (([] : List (Prod Nat Blk)) : Heap)))) (∃ n5 : Int, ((ACalls Try.prog 37 [(AV.ag [(AV.i IntKind.i64 a), (AV.i IntKind.i64 b), (AV.i IntKind.i64 c), (AV.sl (Q.rowH l))]), (AV.s x2)] ([] : List (Prod Nat Blk)) (AV.i IntKind.i64 n5) ([] : List (Prod Nat Blk))) ∧
 ((Bool.true = (Bool.true : Bool)) ∧
 (brP (decide ((a : Int) < n5)) (((AV.b Bool.false) = (v : AV)) ∧
 (([] : List (Prod Nat Blk)) = (([] : List (Prod Nat Blk)) : Heap))) ((AtL (hd Try.f17 12) (hd Try.f17 12)) ∧
 (I 12 { t := [(1, (AV.ptr 0 0)), (3, (AV.i IntKind.i64 ((i : Nat) : Int))), (4, (AV.ptr 1 0)), (5, (AV.i IntKind.i64 (0 : Int)))], σ := [(0, (Blk.cells [(AV.i IntKind.i64 a), (AV.i IntKind.i64 b), (AV.i IntKind.i64 c), (AV.sl (Q.rowH l))])), (1, (Blk.cells [(AV.s x), (AV.s x1), (AV.i IntKind.i64 n), (AV.s x2), (AV.i IntKind.i64 n1), (AV.i IntKind.i64 n2), (AV.i IntKind.i64 n3), (AV.i IntKind.i64 n4)]))], n := 2, m := 122 : St}))))))))))))))))))))))))))))) (((AV.b Bool.true) = (v : AV)) ∧
 (([] : List (Prod Nat Blk)) = (([] : List (Prod Nat Blk)) : Heap))))
theorem vCk4_eq (a b c : Int) (l : List Held) (i : Nat) (I : Nat → St → Prop) (v : AV) : vCk4 a b c l i I v = (evL Try.prog T0 Try.f17 [] (cutA 0 Try.f17 cCk I) 4 (iCk4 a b c l i) 0 [] v []) := by kernel_rfl

def vCk12 (a b c : Int) (l : List Held) (i k : Nat) (x : Held) (I : Nat → St → Prop) (v : AV) : Prop :=
 (brP (decide ((((k : Nat) : Int) : Int) < ((i : Nat) : Int))) ((((0 : Int) : Int) ≤ ((k : Nat) : Int)) ∧
 (((((k : Nat) : Int) : Int) < (((List.length (Q.rowH l)) : Nat) : Int)) ∧
 (∃ x1 : ByteArray, (∃ x2 : ByteArray, (∃ n : Int, (∃ x3 : ByteArray, (∃ n1 : Int, (∃ n2 : Int, (∃ n3 : Int, (∃ n4 : Int, ((((Q.rowH l))[(Int.toNat ((k : Nat) : Int))]? = ((Option.some [(AV.s x1), (AV.s x2), (AV.i IntKind.i64 n), (AV.s x3), (AV.i IntKind.i64 n1), (AV.i IntKind.i64 n2), (AV.i IntKind.i64 n3), (AV.i IntKind.i64 n4)]) : (Option (List AV)))) ∧
 (((List.length (([(AV.s x1)] ++ ([(AV.s x2)] ++ ([] : List AV) : (List AV)) : (List AV)) ++ ([(AV.i IntKind.i64 n)] ++ ([(AV.s x3)] ++ ([(AV.i IntKind.i64 n1)] ++ ([(AV.i IntKind.i64 n2)] ++ ([(AV.i IntKind.i64 n3)] ++ ([(AV.i IntKind.i64 n4)] ++ ([] : List AV) : (List AV)) : (List AV)) : (List AV)) : (List AV)) : (List AV)) : (List AV)) : (List AV))) = (8 : Nat)) ∧
 (∃ x4 : Bool, ((ACalls Try.prog 38 [(AV.ag [(AV.s x1), (AV.s x2), (AV.i IntKind.i64 n), (AV.s x3), (AV.i IntKind.i64 n1), (AV.i IntKind.i64 n2), (AV.i IntKind.i64 n3), (AV.i IntKind.i64 n4)]), (AV.ag [(AV.s (x).1), (AV.s (x).2), (AV.i IntKind.i64 (x).3), (AV.s (x).4), (AV.i IntKind.i64 (x).5), (AV.i IntKind.i64 (x).6), (AV.i IntKind.i64 (x).7), (AV.i IntKind.i64 (x).8)])] ([] : List (Prod Nat Blk)) (AV.b x4) ([] : List (Prod Nat Blk))) ∧
 (brP x4 ((Bool.true = (Bool.true : Bool)) ∧
 (((AV.b Bool.false) = (v : AV)) ∧
 (([] : List (Prod Nat Blk)) = (([] : List (Prod Nat Blk)) : Heap)))) ((((0 : Int) : Int) ≤ ((k : Nat) : Int)) ∧
 (((((k : Nat) : Int) : Int) < (((List.length (Q.rowH l)) : Nat) : Int)) ∧
 (∃ x5 : ByteArray, (∃ x6 : ByteArray, (∃ n5 : Int, (∃ x7 : ByteArray, (∃ n6 : Int, (∃ n7 : Int, (∃ n8 : Int, (∃ n9 : Int, ((((Q.rowH l))[(Int.toNat ((k : Nat) : Int))]? = ((Option.some [(AV.s x5), (AV.s x6), (AV.i IntKind.i64 n5), (AV.s x7), (AV.i IntKind.i64 n6), (AV.i IntKind.i64 n7), (AV.i IntKind.i64 n8), (AV.i IntKind.i64 n9)]) : (Option (List AV)))) ∧
 (((List.length (([(AV.s x5)] ++ ([(AV.s x6)] ++ ([] : List AV) : (List AV)) : (List AV)) ++ ([(AV.i IntKind.i64 n5)] ++ ([(AV.s x7)] ++ ([(AV.i IntKind.i64 n6)] ++ ([(AV.i IntKind.i64 n7)] ++ ([(AV.i IntKind.i64 n8)] ++ ([(AV.i IntKind.i64 n9)] ++ ([] : List AV) : (List AV)) : (List AV)) : (List AV)) : (List AV)) : (List AV)) : (List AV)) : (List AV))) = (8 : Nat)) ∧
 (∃ x8 : Bool, ((ACalls Try.prog 39 [(AV.ag [(AV.s x5), (AV.s x6), (AV.i IntKind.i64 n5), (AV.s x7), (AV.i IntKind.i64 n6), (AV.i IntKind.i64 n7), (AV.i IntKind.i64 n8), (AV.i IntKind.i64 n9)]), (AV.ag [(AV.s (x).1), (AV.s (x).2), (AV.i IntKind.i64 (x).3), (AV.s (x).4), (AV.i IntKind.i64 (x).5), (AV.i IntKind.i64 (x).6), (AV.i IntKind.i64 (x).7), (AV.i IntKind.i64 (x).8)])] ([] : List (Prod Nat Blk)) (AV.b x8) ([] : List (Prod Nat Blk))) ∧
 ((Bool.true = (Bool.true : Bool)) ∧
 (brP (!x8) (((AV.b Bool.false) = (v : AV)) ∧
 (([] : List (Prod Nat Blk)) = (([] : List (Prod Nat Blk)) : Heap))) ((AtL (hd Try.f17 12) (hd Try.f17 12)) ∧
 (I 12 { t := [(1, (AV.ptr 0 0)), (3, (AV.i IntKind.i64 ((i : Nat) : Int))), (4, (AV.ptr 1 0)), (5, (AV.i IntKind.i64 (IntKind.wrap IntKind.i64 (((k : Nat) : Int) + (1 : Int) : Int))))], σ := [(0, (Blk.cells [(AV.i IntKind.i64 a), (AV.i IntKind.i64 b), (AV.i IntKind.i64 c), (AV.sl (Q.rowH l))])), (1, (Blk.cells [(AV.s (x).1), (AV.s (x).2), (AV.i IntKind.i64 (x).3), (AV.s (x).4), (AV.i IntKind.i64 (x).5), (AV.i IntKind.i64 (x).6), (AV.i IntKind.i64 (x).7), (AV.i IntKind.i64 (x).8)]))], n := 2, m := 122 : St}))))))))))))))))))))))))))))))))) ((AtL (hd Try.f17 4) (hd Try.f17 4)) ∧
 (I 4 { t := [(1, (AV.ptr 0 0)), (3, (AV.i IntKind.i64 (IntKind.wrap IntKind.i64 (((i : Nat) : Int) + (1 : Int) : Int))))], σ := [(0, (Blk.cells [(AV.i IntKind.i64 a), (AV.i IntKind.i64 b), (AV.i IntKind.i64 c), (AV.sl (Q.rowH l))]))], n := 1, m := 122 : St})))
theorem vCk12_eq (a b c : Int) (l : List Held) (i k : Nat) (x : Held) (I : Nat → St → Prop) (v : AV) : vCk12 a b c l i k x I v = (evL Try.prog T0 Try.f17 [] (cutA 0 Try.f17 cCk I) 12 (iCk12 a b c l i k x) 0 [] v []) := by kernel_rfl

def vLoad2 (a b c : Int) (l : List Held) (o : ByteArray) (v : AV) : Prop :=
 (∃ x : Bool, ((ACalls Try.prog 17 [(AV.ag [(AV.i IntKind.i64 a), (AV.i IntKind.i64 b), (AV.i IntKind.i64 c), (AV.sl (Q.rowH l))])] ([] : List (Prod Nat Blk)) (AV.b x) ([] : List (Prod Nat Blk))) ∧
 (brP (!x) (((AV.i IntKind.i64 (0 : Int)) = (v : AV)) ∧
 (([] : List (Prod Nat Blk)) = (([] : List (Prod Nat Blk)) : Heap))) (∃ n : Int, ((ACalls Try.prog 37 [(AV.ag [(AV.i IntKind.i64 a), (AV.i IntKind.i64 b), (AV.i IntKind.i64 c), (AV.sl (Q.rowH l))]), (AV.s o)] ([] : List (Prod Nat Blk)) (AV.i IntKind.i64 n) ([] : List (Prod Nat Blk))) ∧
 (((AV.i IntKind.i64 n) = (v : AV)) ∧
 (([] : List (Prod Nat Blk)) = (([] : List (Prod Nat Blk)) : Heap))))))))
theorem vLoad2_eq (a b c : Int) (l : List Held) (o : ByteArray) (v : AV) : vLoad2 a b c l o v = (evF Try.prog T0 Try.f21 [] noK [qAV a b c (rowH l), .s o] [] [] v []) := by kernel_rfl

def vActive2 (a b c : Int) (l : List Held) (m : Mom) (v : AV) : Prop :=
 (∃ x : Bool, ((ACalls Try.prog 17 [(AV.ag [(AV.i IntKind.i64 a), (AV.i IntKind.i64 b), (AV.i IntKind.i64 c), (AV.sl (Q.rowH l))])] ([] : List (Prod Nat Blk)) (AV.b x) ([] : List (Prod Nat Blk))) ∧
 (brP (!x) (((AV.tup [(AV.ag [(AV.s (ByteArray.mk (Array.mk ([] : List UInt8)))), (AV.s (ByteArray.mk (Array.mk ([] : List UInt8)))), (AV.i IntKind.i64 (0 : Int)), (AV.s (ByteArray.mk (Array.mk ([] : List UInt8)))), (AV.i IntKind.i64 (0 : Int)), (AV.i IntKind.i64 (0 : Int)), (AV.i IntKind.i64 (0 : Int)), (AV.i IntKind.i64 (0 : Int))]), (AV.b Bool.false)]) = (v : AV)) ∧
 (([] : List (Prod Nat Blk)) = (([] : List (Prod Nat Blk)) : Heap))) (∃ n : Int, ((ACalls Try.prog 76 [(AV.ag [(AV.i IntKind.i64 a), (AV.i IntKind.i64 b), (AV.i IntKind.i64 c), (AV.sl (Q.rowH l))]), (AV.ag [(AV.s (m).1), (AV.s (m).2)]), (AV.i IntKind.i64 (m).3), (AV.i IntKind.i64 (m).4)] ([] : List (Prod Nat Blk)) (AV.i IntKind.i64 n) ([] : List (Prod Nat Blk))) ∧
 (brP (decide (((0 : Int) : Int) ≤ n)) ((((0 : Int) : Int) ≤ n) ∧
 (((n : Int) < (((List.length (Q.rowH l)) : Nat) : Int)) ∧
 (∃ x1 : ByteArray, (∃ x2 : ByteArray, (∃ n1 : Int, (∃ x3 : ByteArray, (∃ n2 : Int, (∃ n3 : Int, (∃ n4 : Int, (∃ n5 : Int, ((((Q.rowH l))[(Int.toNat n)]? = ((Option.some [(AV.s x1), (AV.s x2), (AV.i IntKind.i64 n1), (AV.s x3), (AV.i IntKind.i64 n2), (AV.i IntKind.i64 n3), (AV.i IntKind.i64 n4), (AV.i IntKind.i64 n5)]) : (Option (List AV)))) ∧
 (((List.length (([(AV.s x1)] ++ ([(AV.s x2)] ++ ([] : List AV) : (List AV)) : (List AV)) ++ ([(AV.i IntKind.i64 n1)] ++ ([(AV.s x3)] ++ ([(AV.i IntKind.i64 n2)] ++ ([(AV.i IntKind.i64 n3)] ++ ([(AV.i IntKind.i64 n4)] ++ ([(AV.i IntKind.i64 n5)] ++ ([] : List AV) : (List AV)) : (List AV)) : (List AV)) : (List AV)) : (List AV)) : (List AV)) : (List AV))) = (8 : Nat)) ∧
 (((AV.tup [(AV.ag [(AV.s x1), (AV.s x2), (AV.i IntKind.i64 n1), (AV.s x3), (AV.i IntKind.i64 n2), (AV.i IntKind.i64 n3), (AV.i IntKind.i64 n4), (AV.i IntKind.i64 n5)]), (AV.b Bool.true)]) = (v : AV)) ∧
 (([] : List (Prod Nat Blk)) = (([] : List (Prod Nat Blk)) : Heap))))))))))))))) (((AV.tup [(AV.ag [(AV.s (ByteArray.mk (Array.mk ([] : List UInt8)))), (AV.s (ByteArray.mk (Array.mk ([] : List UInt8)))), (AV.i IntKind.i64 (0 : Int)), (AV.s (ByteArray.mk (Array.mk ([] : List UInt8)))), (AV.i IntKind.i64 (0 : Int)), (AV.i IntKind.i64 (0 : Int)), (AV.i IntKind.i64 (0 : Int)), (AV.i IntKind.i64 (0 : Int))]), (AV.b Bool.false)]) = (v : AV)) ∧
 (([] : List (Prod Nat Blk)) = (([] : List (Prod Nat Blk)) : Heap)))))))))
theorem vActive2_eq (a b c : Int) (l : List Held) (m : Mom) (v : AV) : vActive2 a b c l m v = (evF Try.prog T0 Try.f61 [] noK [qAV a b c (rowH l), .ag [.s m.p, .s m.t], .i .i64 m.e, .i .i64 m.now] [] [] v []) := by kernel_rfl

def cAd : List (Nat × (List (Nat × (Nat × Nat)) × List Nat)) := [(11, ([(15, (41, 8))], [3,6,12,14,15,16,17]))]
def iAd (a b c : Int) (l out : List Held) (x : Held) (d : Bool) (j : Nat) : St := { t := [(3, .s x.by'), (6, .ptr 0 0), (12, .ptr 1 0), (14, .ptr 2 0), (15, .own 3), (16, .b d), (17, .i .i64 j)], σ := [(0, .cells [.i .i64 a, .i .i64 b, .i .i64 c, .sl (rowH l)]), (1, .cells [.i .i64 0, .i .i64 0, .i .i64 0, .sl []]), (2, .cells x.cells), (3, .row 41 8 (rowH out))], n := 4, m := 115 }
def vAd (a b c : Int) (l : List Held) (p t : ByteArray) (e : Int) (o : ByteArray) (f u : Int) (I : Nat → St → Prop) (v : AV) : Prop :=
 (∃ x : Bool, ((ACalls Try.prog 17 [(AV.ag [(AV.i IntKind.i64 a), (AV.i IntKind.i64 b), (AV.i IntKind.i64 c), (AV.sl (Q.rowH l))])] ([] : List (Prod Nat Blk)) (AV.b x) ([] : List (Prod Nat Blk))) ∧
 (brP (!x) (((AV.tup [(AV.ag [(AV.i IntKind.i64 (0 : Int)), (AV.i IntKind.i64 (0 : Int)), (AV.i IntKind.i64 (0 : Int)), (AV.sl ([] : List (List AV)))]), (AV.i IntKind.i64 (1 : Int))]) = (v : AV)) ∧
 (([] : List (Prod Nat Blk)) = (([] : List (Prod Nat Blk)) : Heap))) (∃ x1 : Bool, ((ACalls Try.prog 36 [(AV.ag [(AV.s p), (AV.s t)]), (AV.i IntKind.i64 e), (AV.s o)] ([] : List (Prod Nat Blk)) (AV.b x1) ([] : List (Prod Nat Blk))) ∧
 (brP (!x1) (((AV.tup [(AV.ag [(AV.i IntKind.i64 (0 : Int)), (AV.i IntKind.i64 (0 : Int)), (AV.i IntKind.i64 (0 : Int)), (AV.sl ([] : List (List AV)))]), (AV.i IntKind.i64 (1 : Int))]) = (v : AV)) ∧
 (([] : List (Prod Nat Blk)) = (([] : List (Prod Nat Blk)) : Heap))) (brP (decide ((f : Int) < (0 : Int))) (((AV.tup [(AV.ag [(AV.i IntKind.i64 (0 : Int)), (AV.i IntKind.i64 (0 : Int)), (AV.i IntKind.i64 (0 : Int)), (AV.sl ([] : List (List AV)))]), (AV.i IntKind.i64 (3 : Int))]) = (v : AV)) ∧
 (([] : List (Prod Nat Blk)) = (([] : List (Prod Nat Blk)) : Heap))) (brP (decide ((u : Int) ≤ f)) (((AV.tup [(AV.ag [(AV.i IntKind.i64 (0 : Int)), (AV.i IntKind.i64 (0 : Int)), (AV.i IntKind.i64 (0 : Int)), (AV.sl ([] : List (List AV)))]), (AV.i IntKind.i64 (3 : Int))]) = (v : AV)) ∧
 (([] : List (Prod Nat Blk)) = (([] : List (Prod Nat Blk)) : Heap))) (brP (decide (((1073741824 : Int) : Int) < u)) (((AV.tup [(AV.ag [(AV.i IntKind.i64 (0 : Int)), (AV.i IntKind.i64 (0 : Int)), (AV.i IntKind.i64 (0 : Int)), (AV.sl ([] : List (List AV)))]), (AV.i IntKind.i64 (3 : Int))]) = (v : AV)) ∧
 (([] : List (Prod Nat Blk)) = (([] : List (Prod Nat Blk)) : Heap))) (brP (decide ((c : Int) < (IntKind.wrap IntKind.i64 (u - f : Int)))) (((AV.tup [(AV.ag [(AV.i IntKind.i64 (0 : Int)), (AV.i IntKind.i64 (0 : Int)), (AV.i IntKind.i64 (0 : Int)), (AV.sl ([] : List (List AV)))]), (AV.i IntKind.i64 (44 : Int))]) = (v : AV)) ∧
 (([] : List (Prod Nat Blk)) = (([] : List (Prod Nat Blk)) : Heap))) ((AtL (hd Try.f56 11) (hd Try.f56 11)) ∧
 (I 11 { t := [(3, (AV.s o)), (6, (AV.ptr 0 0)), (12, (AV.ptr 1 0)), (14, (AV.ptr 2 0)), (15, (AV.own 3)), (16, (AV.b Bool.false)), (17, (AV.i IntKind.i64 (0 : Int)))], σ := [(0, (Blk.cells [(AV.i IntKind.i64 a), (AV.i IntKind.i64 b), (AV.i IntKind.i64 c), (AV.sl (Q.rowH l))])), (1, (Blk.cells [(AV.i IntKind.i64 (0 : Int)), (AV.i IntKind.i64 (0 : Int)), (AV.i IntKind.i64 (0 : Int)), (AV.sl ([] : List (List AV)))])), (2, (Blk.cells [(AV.s p), (AV.s t), (AV.i IntKind.i64 e), (AV.s o), (AV.i IntKind.i64 f), (AV.i IntKind.i64 u), (AV.i IntKind.i64 (0 : Int)), (AV.i IntKind.i64 (0 : Int))])), (3, (Blk.row 41 8 ([] : List (List AV))))], n := 4, m := 115 : St}))))))))))))
theorem vAd_eq (a b c : Int) (l : List Held) (p t : ByteArray) (e : Int) (o : ByteArray) (f u : Int) (I : Nat → St → Prop) (v : AV) : vAd a b c l p t e o f u I v = (evF Try.prog TQ Try.f56 [] (cutA 0 Try.f56 cAd I) [qAV a b c (rowH l), .ag [.s p, .s t], .i .i64 e, .s o, .i .i64 f, .i .i64 u] [] [] v []) := by kernel_rfl

def vAdL (a b c : Int) (l out : List Held) (x : Held) (d : Bool) (j : Nat) (I : Nat → St → Prop) (v : AV) : Prop :=
 (brP (decide ((((j : Nat) : Int) : Int) < (((List.length (Q.rowH l)) : Nat) : Int))) ((((0 : Int) : Int) ≤ ((j : Nat) : Int)) ∧
 (((((j : Nat) : Int) : Int) < (((List.length (Q.rowH l)) : Nat) : Int)) ∧
 (∃ x1 : ByteArray, (∃ x2 : ByteArray, (∃ n : Int, (∃ x3 : ByteArray, (∃ n1 : Int, (∃ n2 : Int, (∃ n3 : Int, (∃ n4 : Int, ((((Q.rowH l))[(Int.toNat ((j : Nat) : Int))]? = ((Option.some [(AV.s x1), (AV.s x2), (AV.i IntKind.i64 n), (AV.s x3), (AV.i IntKind.i64 n1), (AV.i IntKind.i64 n2), (AV.i IntKind.i64 n3), (AV.i IntKind.i64 n4)]) : (Option (List AV)))) ∧
 (((List.length (([(AV.s x1)] ++ ([(AV.s x2)] ++ ([] : List AV) : (List AV)) : (List AV)) ++ ([(AV.i IntKind.i64 n)] ++ ([(AV.s x3)] ++ ([(AV.i IntKind.i64 n1)] ++ ([(AV.i IntKind.i64 n2)] ++ ([(AV.i IntKind.i64 n3)] ++ ([(AV.i IntKind.i64 n4)] ++ ([] : List AV) : (List AV)) : (List AV)) : (List AV)) : (List AV)) : (List AV)) : (List AV)) : (List AV))) = (8 : Nat)) ∧
 (∃ x4 : Bool, ((ACalls Try.prog 38 [(AV.ag [(AV.s x1), (AV.s x2), (AV.i IntKind.i64 n), (AV.s x3), (AV.i IntKind.i64 n1), (AV.i IntKind.i64 n2), (AV.i IntKind.i64 n3), (AV.i IntKind.i64 n4)]), (AV.ag [(AV.s (x).1), (AV.s (x).2), (AV.i IntKind.i64 (x).3), (AV.s (x).4), (AV.i IntKind.i64 (x).5), (AV.i IntKind.i64 (x).6), (AV.i IntKind.i64 (x).7), (AV.i IntKind.i64 (x).8)])] ([] : List (Prod Nat Blk)) (AV.b x4) ([] : List (Prod Nat Blk))) ∧
 ((Bool.true = (Bool.true : Bool)) ∧
 (brP x4 (((AV.tup [(AV.ag [(AV.i IntKind.i64 (0 : Int)), (AV.i IntKind.i64 (0 : Int)), (AV.i IntKind.i64 (0 : Int)), (AV.sl ([] : List (List AV)))]), (AV.i IntKind.i64 (19 : Int))]) = (v : AV)) ∧
 (([] : List (Prod Nat Blk)) = (([] : List (Prod Nat Blk)) : Heap))) (brP (!d) ((((0 : Int) : Int) ≤ ((j : Nat) : Int)) ∧
 (((((j : Nat) : Int) : Int) < (((List.length (Q.rowH l)) : Nat) : Int)) ∧
 (∃ x5 : ByteArray, (∃ x6 : ByteArray, (∃ n5 : Int, (∃ x7 : ByteArray, (∃ n6 : Int, (∃ n7 : Int, (∃ n8 : Int, (∃ n9 : Int, ((((Q.rowH l))[(Int.toNat ((j : Nat) : Int))]? = ((Option.some [(AV.s x5), (AV.s x6), (AV.i IntKind.i64 n5), (AV.s x7), (AV.i IntKind.i64 n6), (AV.i IntKind.i64 n7), (AV.i IntKind.i64 n8), (AV.i IntKind.i64 n9)]) : (Option (List AV)))) ∧
 (((List.length (([(AV.s x5)] ++ ([(AV.s x6)] ++ ([] : List AV) : (List AV)) : (List AV)) ++ ([(AV.i IntKind.i64 n5)] ++ ([(AV.s x7)] ++ ([(AV.i IntKind.i64 n6)] ++ ([(AV.i IntKind.i64 n7)] ++ ([(AV.i IntKind.i64 n8)] ++ ([(AV.i IntKind.i64 n9)] ++ ([] : List AV) : (List AV)) : (List AV)) : (List AV)) : (List AV)) : (List AV)) : (List AV)) : (List AV))) = (8 : Nat)) ∧
 (∃ x8 : Bool, ((ACalls Try.prog 39 [(AV.ag [(AV.s (x).1), (AV.s (x).2), (AV.i IntKind.i64 (x).3), (AV.s (x).4), (AV.i IntKind.i64 (x).5), (AV.i IntKind.i64 (x).6), (AV.i IntKind.i64 (x).7), (AV.i IntKind.i64 (x).8)]), (AV.ag [(AV.s x5), (AV.s x6), (AV.i IntKind.i64 n5), (AV.s x7), (AV.i IntKind.i64 n6), (AV.i IntKind.i64 n7), (AV.i IntKind.i64 n8), (AV.i IntKind.i64 n9)])] ([] : List (Prod Nat Blk)) (AV.b x8) ([] : List (Prod Nat Blk))) ∧
 ((Bool.true = (Bool.true : Bool)) ∧
 (brP x8 ((((((List.length (Q.rowH out)) + 1 : Nat) * 88 : Nat) : Nat) ≤ 140737488355328) ∧
 (((((List.length (Q.rowH out)) + 1 : Nat) : Nat) ≤ 9223372036854775807) ∧
 ((∀ (y : (List AV)), ((List.Mem y [[(AV.s (x).1), (AV.s (x).2), (AV.i IntKind.i64 (x).3), (AV.s (x).4), (AV.i IntKind.i64 (x).5), (AV.i IntKind.i64 (x).6), (AV.i IntKind.i64 (x).7), (AV.i IntKind.i64 (x).8)]]) → ((List.length y) = (8 : Nat)))) ∧
 ((((0 : Int) : Int) ≤ ((j : Nat) : Int)) ∧
 (((((j : Nat) : Int) : Int) < (((List.length (Q.rowH l)) : Nat) : Int)) ∧
 (∃ x9 : ByteArray, (∃ x10 : ByteArray, (∃ n10 : Int, (∃ x11 : ByteArray, (∃ n11 : Int, (∃ n12 : Int, (∃ n13 : Int, (∃ n14 : Int, ((((Q.rowH l))[(Int.toNat ((j : Nat) : Int))]? = ((Option.some [(AV.s x9), (AV.s x10), (AV.i IntKind.i64 n10), (AV.s x11), (AV.i IntKind.i64 n11), (AV.i IntKind.i64 n12), (AV.i IntKind.i64 n13), (AV.i IntKind.i64 n14)]) : (Option (List AV)))) ∧
 (((List.length (([(AV.s x9)] ++ ([(AV.s x10)] ++ ([] : List AV) : (List AV)) : (List AV)) ++ ([(AV.i IntKind.i64 n10)] ++ ([(AV.s x11)] ++ ([(AV.i IntKind.i64 n11)] ++ ([(AV.i IntKind.i64 n12)] ++ ([(AV.i IntKind.i64 n13)] ++ ([(AV.i IntKind.i64 n14)] ++ ([] : List AV) : (List AV)) : (List AV)) : (List AV)) : (List AV)) : (List AV)) : (List AV)) : (List AV))) = (8 : Nat)) ∧
 ((((((List.length ((Q.rowH out) ++ [[(AV.s (x).1), (AV.s (x).2), (AV.i IntKind.i64 (x).3), (AV.s (x).4), (AV.i IntKind.i64 (x).5), (AV.i IntKind.i64 (x).6), (AV.i IntKind.i64 (x).7), (AV.i IntKind.i64 (x).8)]] : (List (List AV)))) + 1 : Nat) * 88 : Nat) : Nat) ≤ 140737488355328) ∧
 (((((List.length ((Q.rowH out) ++ [[(AV.s (x).1), (AV.s (x).2), (AV.i IntKind.i64 (x).3), (AV.s (x).4), (AV.i IntKind.i64 (x).5), (AV.i IntKind.i64 (x).6), (AV.i IntKind.i64 (x).7), (AV.i IntKind.i64 (x).8)]] : (List (List AV)))) + 1 : Nat) : Nat) ≤ 9223372036854775807) ∧
 ((∀ (y : (List AV)), ((List.Mem y [[(AV.s x9), (AV.s x10), (AV.i IntKind.i64 n10), (AV.s x11), (AV.i IntKind.i64 n11), (AV.i IntKind.i64 n12), (AV.i IntKind.i64 n13), (AV.i IntKind.i64 n14)]]) → ((List.length y) = (8 : Nat)))) ∧
 ((AtL (hd Try.f56 11) (hd Try.f56 11)) ∧
 (I 11 { t := [(3, (AV.s (x).4)), (6, (AV.ptr 0 0)), (12, (AV.ptr 1 0)), (14, (AV.ptr 2 0)), (15, (AV.own 3)), (16, (AV.b Bool.true)), (17, (AV.i IntKind.i64 (IntKind.wrap IntKind.i64 (((j : Nat) : Int) + (1 : Int) : Int))))], σ := [(0, (Blk.cells [(AV.i IntKind.i64 a), (AV.i IntKind.i64 b), (AV.i IntKind.i64 c), (AV.sl (Q.rowH l))])), (1, (Blk.cells [(AV.i IntKind.i64 (0 : Int)), (AV.i IntKind.i64 (0 : Int)), (AV.i IntKind.i64 (0 : Int)), (AV.sl ([] : List (List AV)))])), (2, (Blk.cells [(AV.s (x).1), (AV.s (x).2), (AV.i IntKind.i64 (x).3), (AV.s (x).4), (AV.i IntKind.i64 (x).5), (AV.i IntKind.i64 (x).6), (AV.i IntKind.i64 (x).7), (AV.i IntKind.i64 (x).8)])), (3, (Blk.row 41 8 (((Q.rowH out) ++ [[(AV.s (x).1), (AV.s (x).2), (AV.i IntKind.i64 (x).3), (AV.s (x).4), (AV.i IntKind.i64 (x).5), (AV.i IntKind.i64 (x).6), (AV.i IntKind.i64 (x).7), (AV.i IntKind.i64 (x).8)]] : (List (List AV))) ++ [[(AV.s x9), (AV.s x10), (AV.i IntKind.i64 n10), (AV.s x11), (AV.i IntKind.i64 n11), (AV.i IntKind.i64 n12), (AV.i IntKind.i64 n13), (AV.i IntKind.i64 n14)]] : (List (List AV)))))], n := 4, m := 115 : St})))))))))))))))))))) ((((0 : Int) : Int) ≤ ((j : Nat) : Int)) ∧
 (((((j : Nat) : Int) : Int) < (((List.length (Q.rowH l)) : Nat) : Int)) ∧
 (∃ x9 : ByteArray, (∃ x10 : ByteArray, (∃ n10 : Int, (∃ x11 : ByteArray, (∃ n11 : Int, (∃ n12 : Int, (∃ n13 : Int, (∃ n14 : Int, ((((Q.rowH l))[(Int.toNat ((j : Nat) : Int))]? = ((Option.some [(AV.s x9), (AV.s x10), (AV.i IntKind.i64 n10), (AV.s x11), (AV.i IntKind.i64 n11), (AV.i IntKind.i64 n12), (AV.i IntKind.i64 n13), (AV.i IntKind.i64 n14)]) : (Option (List AV)))) ∧
 (((List.length (([(AV.s x9)] ++ ([(AV.s x10)] ++ ([] : List AV) : (List AV)) : (List AV)) ++ ([(AV.i IntKind.i64 n10)] ++ ([(AV.s x11)] ++ ([(AV.i IntKind.i64 n11)] ++ ([(AV.i IntKind.i64 n12)] ++ ([(AV.i IntKind.i64 n13)] ++ ([(AV.i IntKind.i64 n14)] ++ ([] : List AV) : (List AV)) : (List AV)) : (List AV)) : (List AV)) : (List AV)) : (List AV)) : (List AV))) = (8 : Nat)) ∧
 ((((((List.length (Q.rowH out)) + 1 : Nat) * 88 : Nat) : Nat) ≤ 140737488355328) ∧
 (((((List.length (Q.rowH out)) + 1 : Nat) : Nat) ≤ 9223372036854775807) ∧
 ((∀ (y : (List AV)), ((List.Mem y [[(AV.s x9), (AV.s x10), (AV.i IntKind.i64 n10), (AV.s x11), (AV.i IntKind.i64 n11), (AV.i IntKind.i64 n12), (AV.i IntKind.i64 n13), (AV.i IntKind.i64 n14)]]) → ((List.length y) = (8 : Nat)))) ∧
 ((AtL (hd Try.f56 11) (hd Try.f56 11)) ∧
 (I 11 { t := [(3, (AV.s (x).4)), (6, (AV.ptr 0 0)), (12, (AV.ptr 1 0)), (14, (AV.ptr 2 0)), (15, (AV.own 3)), (16, (AV.b d)), (17, (AV.i IntKind.i64 (IntKind.wrap IntKind.i64 (((j : Nat) : Int) + (1 : Int) : Int))))], σ := [(0, (Blk.cells [(AV.i IntKind.i64 a), (AV.i IntKind.i64 b), (AV.i IntKind.i64 c), (AV.sl (Q.rowH l))])), (1, (Blk.cells [(AV.i IntKind.i64 (0 : Int)), (AV.i IntKind.i64 (0 : Int)), (AV.i IntKind.i64 (0 : Int)), (AV.sl ([] : List (List AV)))])), (2, (Blk.cells [(AV.s (x).1), (AV.s (x).2), (AV.i IntKind.i64 (x).3), (AV.s (x).4), (AV.i IntKind.i64 (x).5), (AV.i IntKind.i64 (x).6), (AV.i IntKind.i64 (x).7), (AV.i IntKind.i64 (x).8)])), (3, (Blk.row 41 8 ((Q.rowH out) ++ [[(AV.s x9), (AV.s x10), (AV.i IntKind.i64 n10), (AV.s x11), (AV.i IntKind.i64 n11), (AV.i IntKind.i64 n12), (AV.i IntKind.i64 n13), (AV.i IntKind.i64 n14)]] : (List (List AV)))))], n := 4, m := 115 : St}))))))))))))))))))))))))))))))))) ((Bool.true = (Bool.true : Bool)) ∧
 ((((0 : Int) : Int) ≤ ((j : Nat) : Int)) ∧
 (((((j : Nat) : Int) : Int) < (((List.length (Q.rowH l)) : Nat) : Int)) ∧
 (∃ x5 : ByteArray, (∃ x6 : ByteArray, (∃ n5 : Int, (∃ x7 : ByteArray, (∃ n6 : Int, (∃ n7 : Int, (∃ n8 : Int, (∃ n9 : Int, ((((Q.rowH l))[(Int.toNat ((j : Nat) : Int))]? = ((Option.some [(AV.s x5), (AV.s x6), (AV.i IntKind.i64 n5), (AV.s x7), (AV.i IntKind.i64 n6), (AV.i IntKind.i64 n7), (AV.i IntKind.i64 n8), (AV.i IntKind.i64 n9)]) : (Option (List AV)))) ∧
 (((List.length (([(AV.s x5)] ++ ([(AV.s x6)] ++ ([] : List AV) : (List AV)) : (List AV)) ++ ([(AV.i IntKind.i64 n5)] ++ ([(AV.s x7)] ++ ([(AV.i IntKind.i64 n6)] ++ ([(AV.i IntKind.i64 n7)] ++ ([(AV.i IntKind.i64 n8)] ++ ([(AV.i IntKind.i64 n9)] ++ ([] : List AV) : (List AV)) : (List AV)) : (List AV)) : (List AV)) : (List AV)) : (List AV)) : (List AV))) = (8 : Nat)) ∧
 ((((((List.length (Q.rowH out)) + 1 : Nat) * 88 : Nat) : Nat) ≤ 140737488355328) ∧
 (((((List.length (Q.rowH out)) + 1 : Nat) : Nat) ≤ 9223372036854775807) ∧
 ((∀ (y : (List AV)), ((List.Mem y [[(AV.s x5), (AV.s x6), (AV.i IntKind.i64 n5), (AV.s x7), (AV.i IntKind.i64 n6), (AV.i IntKind.i64 n7), (AV.i IntKind.i64 n8), (AV.i IntKind.i64 n9)]]) → ((List.length y) = (8 : Nat)))) ∧
 ((AtL (hd Try.f56 11) (hd Try.f56 11)) ∧
 (I 11 { t := [(3, (AV.s (x).4)), (6, (AV.ptr 0 0)), (12, (AV.ptr 1 0)), (14, (AV.ptr 2 0)), (15, (AV.own 3)), (16, (AV.b d)), (17, (AV.i IntKind.i64 (IntKind.wrap IntKind.i64 (((j : Nat) : Int) + (1 : Int) : Int))))], σ := [(0, (Blk.cells [(AV.i IntKind.i64 a), (AV.i IntKind.i64 b), (AV.i IntKind.i64 c), (AV.sl (Q.rowH l))])), (1, (Blk.cells [(AV.i IntKind.i64 (0 : Int)), (AV.i IntKind.i64 (0 : Int)), (AV.i IntKind.i64 (0 : Int)), (AV.sl ([] : List (List AV)))])), (2, (Blk.cells [(AV.s (x).1), (AV.s (x).2), (AV.i IntKind.i64 (x).3), (AV.s (x).4), (AV.i IntKind.i64 (x).5), (AV.i IntKind.i64 (x).6), (AV.i IntKind.i64 (x).7), (AV.i IntKind.i64 (x).8)])), (3, (Blk.row 41 8 ((Q.rowH out) ++ [[(AV.s x5), (AV.s x6), (AV.i IntKind.i64 n5), (AV.s x7), (AV.i IntKind.i64 n6), (AV.i IntKind.i64 n7), (AV.i IntKind.i64 n8), (AV.i IntKind.i64 n9)]] : (List (List AV)))))], n := 4, m := 115 : St}))))))))))))))))))))))))))))))))))) (brP (!d) ((((((List.length (Q.rowH out)) + 1 : Nat) * 88 : Nat) : Nat) ≤ 140737488355328) ∧
 (((((List.length (Q.rowH out)) + 1 : Nat) : Nat) ≤ 9223372036854775807) ∧
 ((∀ (y : (List AV)), ((List.Mem y [[(AV.s (x).1), (AV.s (x).2), (AV.i IntKind.i64 (x).3), (AV.s (x).4), (AV.i IntKind.i64 (x).5), (AV.i IntKind.i64 (x).6), (AV.i IntKind.i64 (x).7), (AV.i IntKind.i64 (x).8)]]) → ((List.length y) = (8 : Nat)))) ∧
 (brP (decide ((b : Int) ≤ (((List.length (Q.rowH l)) : Nat) : Int))) (((AV.tup [(AV.ag [(AV.i IntKind.i64 (0 : Int)), (AV.i IntKind.i64 (0 : Int)), (AV.i IntKind.i64 (0 : Int)), (AV.sl ([] : List (List AV)))]), (AV.i IntKind.i64 (42 : Int))]) = (v : AV)) ∧
 (([] : List (Prod Nat Blk)) = (([] : List (Prod Nat Blk)) : Heap))) (∃ n : Int, ((ACalls Try.prog 37 [(AV.ag [(AV.i IntKind.i64 a), (AV.i IntKind.i64 b), (AV.i IntKind.i64 c), (AV.sl (Q.rowH l))]), (AV.s (x).4)] ([] : List (Prod Nat Blk)) (AV.i IntKind.i64 n) ([] : List (Prod Nat Blk))) ∧
 ((Bool.true = (Bool.true : Bool)) ∧
 (brP (decide ((a : Int) ≤ n)) (((AV.tup [(AV.ag [(AV.i IntKind.i64 (0 : Int)), (AV.i IntKind.i64 (0 : Int)), (AV.i IntKind.i64 (0 : Int)), (AV.sl ([] : List (List AV)))]), (AV.i IntKind.i64 (43 : Int))]) = (v : AV)) ∧
 (([] : List (Prod Nat Blk)) = (([] : List (Prod Nat Blk)) : Heap))) (((AV.tup [(AV.ag [(AV.i IntKind.i64 a), (AV.i IntKind.i64 b), (AV.i IntKind.i64 c), (AV.sl ((Q.rowH out) ++ [[(AV.s (x).1), (AV.s (x).2), (AV.i IntKind.i64 (x).3), (AV.s (x).4), (AV.i IntKind.i64 (x).5), (AV.i IntKind.i64 (x).6), (AV.i IntKind.i64 (x).7), (AV.i IntKind.i64 (x).8)]] : (List (List AV))))]), (AV.i IntKind.i64 (0 : Int))]) = (v : AV)) ∧
 (([] : List (Prod Nat Blk)) = (([] : List (Prod Nat Blk)) : Heap))))))))))) (brP (decide ((b : Int) ≤ (((List.length (Q.rowH l)) : Nat) : Int))) (((AV.tup [(AV.ag [(AV.i IntKind.i64 (0 : Int)), (AV.i IntKind.i64 (0 : Int)), (AV.i IntKind.i64 (0 : Int)), (AV.sl ([] : List (List AV)))]), (AV.i IntKind.i64 (42 : Int))]) = (v : AV)) ∧
 (([] : List (Prod Nat Blk)) = (([] : List (Prod Nat Blk)) : Heap))) (∃ n : Int, ((ACalls Try.prog 37 [(AV.ag [(AV.i IntKind.i64 a), (AV.i IntKind.i64 b), (AV.i IntKind.i64 c), (AV.sl (Q.rowH l))]), (AV.s (x).4)] ([] : List (Prod Nat Blk)) (AV.i IntKind.i64 n) ([] : List (Prod Nat Blk))) ∧
 ((Bool.true = (Bool.true : Bool)) ∧
 (brP (decide ((a : Int) ≤ n)) (((AV.tup [(AV.ag [(AV.i IntKind.i64 (0 : Int)), (AV.i IntKind.i64 (0 : Int)), (AV.i IntKind.i64 (0 : Int)), (AV.sl ([] : List (List AV)))]), (AV.i IntKind.i64 (43 : Int))]) = (v : AV)) ∧
 (([] : List (Prod Nat Blk)) = (([] : List (Prod Nat Blk)) : Heap))) (((AV.tup [(AV.ag [(AV.i IntKind.i64 a), (AV.i IntKind.i64 b), (AV.i IntKind.i64 c), (AV.sl (Q.rowH out))]), (AV.i IntKind.i64 (0 : Int))]) = (v : AV)) ∧
 (([] : List (Prod Nat Blk)) = (([] : List (Prod Nat Blk)) : Heap))))))))))
theorem vAdL_eq (a b c : Int) (l out : List Held) (x : Held) (d : Bool) (j : Nat) (I : Nat → St → Prop) (v : AV) : vAdL a b c l out x d j I v = (evL Try.prog TQ Try.f56 [] (cutA 0 Try.f56 cAd I) 11 (iAd a b c l out x d j) 0 [] v []) := by kernel_rfl

def cRe : List (Nat × (List (Nat × (Nat × Nat)) × List Nat)) := [(15, ([], [5,10,12,13,14]))]
def vRe (a b c : Int) (l : List Held) (m : Mom) (u : Int) (I : Nat → St → Prop) (v : AV) : Prop :=
 (∃ x : Bool, ((ACalls Try.prog 17 [(AV.ag [(AV.i IntKind.i64 a), (AV.i IntKind.i64 b), (AV.i IntKind.i64 c), (AV.sl (Q.rowH l))])] ([] : List (Prod Nat Blk)) (AV.b x) ([] : List (Prod Nat Blk))) ∧
 (brP (!x) (((AV.tup [(AV.ag [(AV.i IntKind.i64 (0 : Int)), (AV.i IntKind.i64 (0 : Int)), (AV.i IntKind.i64 (0 : Int)), (AV.sl ([] : List (List AV)))]), (AV.i IntKind.i64 (1 : Int))]) = (v : AV)) ∧
 (([] : List (Prod Nat Blk)) = (([] : List (Prod Nat Blk)) : Heap))) (∃ n : Int, ((ACalls Try.prog 76 [(AV.ag [(AV.i IntKind.i64 a), (AV.i IntKind.i64 b), (AV.i IntKind.i64 c), (AV.sl (Q.rowH l))]), (AV.ag [(AV.s (m).1), (AV.s (m).2)]), (AV.i IntKind.i64 (m).3), (AV.i IntKind.i64 (m).4)] ([] : List (Prod Nat Blk)) (AV.i IntKind.i64 n) ([] : List (Prod Nat Blk))) ∧
 (brP (decide ((n : Int) < (0 : Int))) (((AV.tup [(AV.ag [(AV.i IntKind.i64 (0 : Int)), (AV.i IntKind.i64 (0 : Int)), (AV.i IntKind.i64 (0 : Int)), (AV.sl ([] : List (List AV)))]), (AV.i IntKind.i64 (18 : Int))]) = (v : AV)) ∧
 (([] : List (Prod Nat Blk)) = (([] : List (Prod Nat Blk)) : Heap))) ((((0 : Int) : Int) ≤ n) ∧
 (((n : Int) < (((List.length (Q.rowH l)) : Nat) : Int)) ∧
 (∃ x1 : ByteArray, (∃ x2 : ByteArray, (∃ n1 : Int, (∃ x3 : ByteArray, (∃ n2 : Int, (∃ n3 : Int, (∃ n4 : Int, (∃ n5 : Int, ((((Q.rowH l))[(Int.toNat n)]? = ((Option.some [(AV.s x1), (AV.s x2), (AV.i IntKind.i64 n1), (AV.s x3), (AV.i IntKind.i64 n2), (AV.i IntKind.i64 n3), (AV.i IntKind.i64 n4), (AV.i IntKind.i64 n5)]) : (Option (List AV)))) ∧
 (((List.length (([(AV.s x1)] ++ ([(AV.s x2)] ++ ([] : List AV) : (List AV)) : (List AV)) ++ ([(AV.i IntKind.i64 n1)] ++ ([(AV.s x3)] ++ ([(AV.i IntKind.i64 n2)] ++ ([(AV.i IntKind.i64 n3)] ++ ([(AV.i IntKind.i64 n4)] ++ ([(AV.i IntKind.i64 n5)] ++ ([] : List AV) : (List AV)) : (List AV)) : (List AV)) : (List AV)) : (List AV)) : (List AV)) : (List AV))) = (8 : Nat)) ∧
 (brP (decide (n4 = ((1 : Int) : Int))) (((AV.tup [(AV.ag [(AV.i IntKind.i64 (0 : Int)), (AV.i IntKind.i64 (0 : Int)), (AV.i IntKind.i64 (0 : Int)), (AV.sl ([] : List (List AV)))]), (AV.i IntKind.i64 (45 : Int))]) = (v : AV)) ∧
 (([] : List (Prod Nat Blk)) = (([] : List (Prod Nat Blk)) : Heap))) (brP (decide ((u : Int) ≤ n3)) (((AV.tup [(AV.ag [(AV.i IntKind.i64 (0 : Int)), (AV.i IntKind.i64 (0 : Int)), (AV.i IntKind.i64 (0 : Int)), (AV.sl ([] : List (List AV)))]), (AV.i IntKind.i64 (3 : Int))]) = (v : AV)) ∧
 (([] : List (Prod Nat Blk)) = (([] : List (Prod Nat Blk)) : Heap))) (brP (decide (((1073741824 : Int) : Int) < u)) (((AV.tup [(AV.ag [(AV.i IntKind.i64 (0 : Int)), (AV.i IntKind.i64 (0 : Int)), (AV.i IntKind.i64 (0 : Int)), (AV.sl ([] : List (List AV)))]), (AV.i IntKind.i64 (3 : Int))]) = (v : AV)) ∧
 (([] : List (Prod Nat Blk)) = (([] : List (Prod Nat Blk)) : Heap))) (brP (decide ((c : Int) < (IntKind.wrap IntKind.i64 (u - (m).4 : Int)))) (((AV.tup [(AV.ag [(AV.i IntKind.i64 (0 : Int)), (AV.i IntKind.i64 (0 : Int)), (AV.i IntKind.i64 (0 : Int)), (AV.sl ([] : List (List AV)))]), (AV.i IntKind.i64 (44 : Int))]) = (v : AV)) ∧
 (([] : List (Prod Nat Blk)) = (([] : List (Prod Nat Blk)) : Heap))) ((AtL (hd Try.f57 15) (hd Try.f57 15)) ∧
 (I 15 { t := [(5, (AV.ptr 0 0)), (10, (AV.ptr 1 0)), (12, (AV.i IntKind.i64 n)), (13, (AV.ptr 2 0)), (14, (AV.i IntKind.i64 (0 : Int)))], σ := [(0, (Blk.cells [(AV.i IntKind.i64 a), (AV.i IntKind.i64 b), (AV.i IntKind.i64 c), (AV.sl (Q.rowH l))])), (1, (Blk.cells [(AV.i IntKind.i64 (0 : Int)), (AV.i IntKind.i64 (0 : Int)), (AV.i IntKind.i64 (0 : Int)), (AV.sl ([] : List (List AV)))])), (2, (Blk.cells [(AV.s x1), (AV.s x2), (AV.i IntKind.i64 n1), (AV.s x3), (AV.i IntKind.i64 n2), (AV.i IntKind.i64 u), (AV.i IntKind.i64 (1 : Int)), (AV.i IntKind.i64 n5)]))], n := 3, m := 82 : St}))))))))))))))))))))))))
theorem vRe_eq (a b c : Int) (l : List Held) (m : Mom) (u : Int) (I : Nat → St → Prop) (v : AV) : vRe a b c l m u I v = (evF Try.prog TQ Try.f57 [] (cutA 0 Try.f57 cRe I) [qAV a b c (rowH l), .ag [.s m.p, .s m.t], .i .i64 m.e, .i .i64 m.now, .i .i64 u] [] [] v []) := by kernel_rfl

def vRl (a b c : Int) (l : List Held) (m : Mom) (v : AV) : Prop :=
 (∃ x : Bool, ((ACalls Try.prog 17 [(AV.ag [(AV.i IntKind.i64 a), (AV.i IntKind.i64 b), (AV.i IntKind.i64 c), (AV.sl (Q.rowH l))])] ([] : List (Prod Nat Blk)) (AV.b x) ([] : List (Prod Nat Blk))) ∧
 (brP (!x) (((AV.tup [(AV.ag [(AV.i IntKind.i64 (0 : Int)), (AV.i IntKind.i64 (0 : Int)), (AV.i IntKind.i64 (0 : Int)), (AV.sl ([] : List (List AV)))]), (AV.i IntKind.i64 (1 : Int))]) = (v : AV)) ∧
 (([] : List (Prod Nat Blk)) = (([] : List (Prod Nat Blk)) : Heap))) (∃ n : Int, ((ACalls Try.prog 76 [(AV.ag [(AV.i IntKind.i64 a), (AV.i IntKind.i64 b), (AV.i IntKind.i64 c), (AV.sl (Q.rowH l))]), (AV.ag [(AV.s (m).1), (AV.s (m).2)]), (AV.i IntKind.i64 (m).3), (AV.i IntKind.i64 (m).4)] ([] : List (Prod Nat Blk)) (AV.i IntKind.i64 n) ([] : List (Prod Nat Blk))) ∧
 (brP (decide ((n : Int) < (0 : Int))) (((AV.tup [(AV.ag [(AV.i IntKind.i64 (0 : Int)), (AV.i IntKind.i64 (0 : Int)), (AV.i IntKind.i64 (0 : Int)), (AV.sl ([] : List (List AV)))]), (AV.i IntKind.i64 (18 : Int))]) = (v : AV)) ∧
 (([] : List (Prod Nat Blk)) = (([] : List (Prod Nat Blk)) : Heap))) ((((0 : Int) : Int) ≤ n) ∧
 (((n : Int) ≤ (((List.length (Q.rowH l)) : Nat) : Int)) ∧
 ((∀ (x1 : (List AV)), ((List.Mem x1 (Q.rowH l)) → ((List.length x1) = (8 : Nat)))) ∧
 (((((List.length (List.drop 0 (List.take (Int.toNat n) (Q.rowH l)))) * 88 : Nat) : Nat) ≤ 140737488355328) ∧
 ((((List.length (List.drop 0 (List.take (Int.toNat n) (Q.rowH l)))) : Nat) ≤ 9223372036854775807) ∧
 ((∀ (y : (List AV)), ((List.Mem y (List.drop 0 (List.take (Int.toNat n) (Q.rowH l)))) → ((List.length y) = (8 : Nat)))) ∧
 ((((0 : Int) : Int) ≤ (IntKind.wrap IntKind.i64 (n + (1 : Int) : Int))) ∧
 ((((IntKind.wrap IntKind.i64 (n + (1 : Int) : Int)) : Int) ≤ (((List.length (Q.rowH l)) : Nat) : Int)) ∧
 ((∀ (x1 : (List AV)), ((List.Mem x1 (Q.rowH l)) → ((List.length x1) = (8 : Nat)))) ∧
 ((((((List.length (List.drop 0 (List.take (Int.toNat n) (Q.rowH l)))) + (List.length (List.drop (Int.toNat (IntKind.wrap IntKind.i64 (n + (1 : Int) : Int))) (List.take (List.length (Q.rowH l)) (Q.rowH l)))) : Nat) * 88 : Nat) : Nat) ≤ 140737488355328) ∧
 (((((List.length (List.drop 0 (List.take (Int.toNat n) (Q.rowH l)))) + (List.length (List.drop (Int.toNat (IntKind.wrap IntKind.i64 (n + (1 : Int) : Int))) (List.take (List.length (Q.rowH l)) (Q.rowH l)))) : Nat) : Nat) ≤ 9223372036854775807) ∧
 ((∀ (y : (List AV)), ((List.Mem y (List.drop (Int.toNat (IntKind.wrap IntKind.i64 (n + (1 : Int) : Int))) (List.take (List.length (Q.rowH l)) (Q.rowH l)))) → ((List.length y) = (8 : Nat)))) ∧
 ((Bool.true = (Bool.true : Bool)) ∧
 (((AV.tup [(AV.ag [(AV.i IntKind.i64 a), (AV.i IntKind.i64 b), (AV.i IntKind.i64 c), (AV.sl ((List.drop 0 (List.take (Int.toNat n) (Q.rowH l))) ++ (List.drop (Int.toNat (IntKind.wrap IntKind.i64 (n + (1 : Int) : Int))) (List.take (List.length (Q.rowH l)) (Q.rowH l))) : (List (List AV))))]), (AV.i IntKind.i64 (0 : Int))]) = (v : AV)) ∧
 (([] : List (Prod Nat Blk)) = (([] : List (Prod Nat Blk)) : Heap))))))))))))))))))))))
theorem vRl_eq (a b c : Int) (l : List Held) (m : Mom) (v : AV) : vRl a b c l m v = (evF Try.prog TQ Try.f58 [] noK [qAV a b c (rowH l), .ag [.s m.p, .s m.t], .i .i64 m.e, .i .i64 m.now] [] [] v []) := by kernel_rfl

def vCh (a b c : Int) (l : List Held) (m : Mom) (v : AV) : Prop :=
 (∃ x : Bool, ((ACalls Try.prog 17 [(AV.ag [(AV.i IntKind.i64 a), (AV.i IntKind.i64 b), (AV.i IntKind.i64 c), (AV.sl (Q.rowH l))])] ([] : List (Prod Nat Blk)) (AV.b x) ([] : List (Prod Nat Blk))) ∧
 (brP (!x) (((AV.tup [(AV.ag [(AV.i IntKind.i64 (0 : Int)), (AV.i IntKind.i64 (0 : Int)), (AV.i IntKind.i64 (0 : Int)), (AV.sl ([] : List (List AV)))]), (AV.i IntKind.i64 (1 : Int))]) = (v : AV)) ∧
 (([] : List (Prod Nat Blk)) = (([] : List (Prod Nat Blk)) : Heap))) (∃ n : Int, ((ACalls Try.prog 76 [(AV.ag [(AV.i IntKind.i64 a), (AV.i IntKind.i64 b), (AV.i IntKind.i64 c), (AV.sl (Q.rowH l))]), (AV.ag [(AV.s (m).1), (AV.s (m).2)]), (AV.i IntKind.i64 (m).3), (AV.i IntKind.i64 (m).4)] ([] : List (Prod Nat Blk)) (AV.i IntKind.i64 n) ([] : List (Prod Nat Blk))) ∧
 (brP (decide ((n : Int) < (0 : Int))) (((AV.tup [(AV.ag [(AV.i IntKind.i64 (0 : Int)), (AV.i IntKind.i64 (0 : Int)), (AV.i IntKind.i64 (0 : Int)), (AV.sl ([] : List (List AV)))]), (AV.i IntKind.i64 (18 : Int))]) = (v : AV)) ∧
 (([] : List (Prod Nat Blk)) = (([] : List (Prod Nat Blk)) : Heap))) ((((0 : Int) : Int) ≤ n) ∧
 (((n : Int) < (((List.length (Q.rowH l)) : Nat) : Int)) ∧
 (∃ x1 : ByteArray, (∃ x2 : ByteArray, (∃ n1 : Int, (∃ x3 : ByteArray, (∃ n2 : Int, (∃ n3 : Int, (∃ n4 : Int, (∃ n5 : Int, ((((Q.rowH l))[(Int.toNat n)]? = ((Option.some [(AV.s x1), (AV.s x2), (AV.i IntKind.i64 n1), (AV.s x3), (AV.i IntKind.i64 n2), (AV.i IntKind.i64 n3), (AV.i IntKind.i64 n4), (AV.i IntKind.i64 n5)]) : (Option (List AV)))) ∧
 (((List.length (([(AV.s x1)] ++ ([(AV.s x2)] ++ ([] : List AV) : (List AV)) : (List AV)) ++ ([(AV.i IntKind.i64 n1)] ++ ([(AV.s x3)] ++ ([(AV.i IntKind.i64 n2)] ++ ([(AV.i IntKind.i64 n3)] ++ ([(AV.i IntKind.i64 n4)] ++ ([(AV.i IntKind.i64 n5)] ++ ([] : List AV) : (List AV)) : (List AV)) : (List AV)) : (List AV)) : (List AV)) : (List AV)) : (List AV))) = (8 : Nat)) ∧
 (brP (decide (n5 = ((1073741824 : Int) : Int))) (((AV.tup [(AV.ag [(AV.i IntKind.i64 (0 : Int)), (AV.i IntKind.i64 (0 : Int)), (AV.i IntKind.i64 (0 : Int)), (AV.sl ([] : List (List AV)))]), (AV.i IntKind.i64 (2 : Int))]) = (v : AV)) ∧
 (([] : List (Prod Nat Blk)) = (([] : List (Prod Nat Blk)) : Heap))) (∃ n6 : Int, (∃ n7 : Int, (∃ n8 : Int, (∃ xs : (List (List AV)), ((ACalls Try.prog 77 [(AV.ag [(AV.i IntKind.i64 a), (AV.i IntKind.i64 b), (AV.i IntKind.i64 c), (AV.sl (Q.rowH l))]), (AV.i IntKind.i64 n), (AV.ag [(AV.s x1), (AV.s x2), (AV.i IntKind.i64 n1), (AV.s x3), (AV.i IntKind.i64 n2), (AV.i IntKind.i64 n3), (AV.i IntKind.i64 n4), (AV.i IntKind.i64 (IntKind.wrap IntKind.i64 (n5 + (1 : Int) : Int)))])] ([] : List (Prod Nat Blk)) (AV.ag ([(AV.i IntKind.i64 n6)] ++ ([(AV.i IntKind.i64 n7)] ++ ([(AV.i IntKind.i64 n8)] ++ ([(AV.sl xs)] ++ ([] : List AV) : (List AV)) : (List AV)) : (List AV)) : (List AV))) ([] : List (Prod Nat Blk))) ∧
 (((AV.tup [(AV.ag [(AV.i IntKind.i64 n6), (AV.i IntKind.i64 n7), (AV.i IntKind.i64 n8), (AV.sl xs)]), (AV.i IntKind.i64 (0 : Int))]) = (v : AV)) ∧
 (([] : List (Prod Nat Blk)) = (([] : List (Prod Nat Blk)) : Heap)))))))))))))))))))))))))))
theorem vCh_eq (a b c : Int) (l : List Held) (m : Mom) (v : AV) : vCh a b c l m v = (evF Try.prog TQ Try.f59 [] noK [qAV a b c (rowH l), .ag [.s m.p, .s m.t], .i .i64 m.e, .i .i64 m.now] [] [] v []) := by kernel_rfl

def cE2 : List (Nat × (List (Nat × (Nat × Nat)) × List Nat)) := [(5, ([(7, (41, 8)), (8, (41, 8))], [1,2,4,7,8,9]))]
def iE2 (a b c now : Int) (l le en : List Held) (j : Nat) : St := { t := [(1, .i .i64 now), (2, .ptr 0 0), (4, .ptr 1 0), (7, .own 2), (8, .own 3), (9, .i .i64 j)], σ := [(0, .cells [.i .i64 a, .i .i64 b, .i .i64 c, .sl (rowH l)]), (1, .cells [.i .i64 0, .i .i64 0, .i .i64 0, .sl []]), (2, .row 41 8 (rowH le)), (3, .row 41 8 (rowH en))], n := 4, m := 49 }
def vE2 (a b c now : Int) (l : List Held) (I : Nat → St → Prop) (v : AV) : Prop :=
 (∃ x : Bool, ((ACalls Try.prog 17 [(AV.ag [(AV.i IntKind.i64 a), (AV.i IntKind.i64 b), (AV.i IntKind.i64 c), (AV.sl (Q.rowH l))])] ([] : List (Prod Nat Blk)) (AV.b x) ([] : List (Prod Nat Blk))) ∧
 (brP (!x) (((AV.tup [(AV.ag [(AV.i IntKind.i64 (0 : Int)), (AV.i IntKind.i64 (0 : Int)), (AV.i IntKind.i64 (0 : Int)), (AV.sl ([] : List (List AV)))]), (AV.sl ([] : List (List AV))), (AV.i IntKind.i64 (1 : Int))]) = (v : AV)) ∧
 (([] : List (Prod Nat Blk)) = (([] : List (Prod Nat Blk)) : Heap))) ((AtL (hd Try.f60 5) (hd Try.f60 5)) ∧
 (I 5 { t := [(1, (AV.i IntKind.i64 now)), (2, (AV.ptr 0 0)), (4, (AV.ptr 1 0)), (7, (AV.own 2)), (8, (AV.own 3)), (9, (AV.i IntKind.i64 (0 : Int)))], σ := [(0, (Blk.cells [(AV.i IntKind.i64 a), (AV.i IntKind.i64 b), (AV.i IntKind.i64 c), (AV.sl (Q.rowH l))])), (1, (Blk.cells [(AV.i IntKind.i64 (0 : Int)), (AV.i IntKind.i64 (0 : Int)), (AV.i IntKind.i64 (0 : Int)), (AV.sl ([] : List (List AV)))])), (2, (Blk.row 41 8 ([] : List (List AV)))), (3, (Blk.row 41 8 ([] : List (List AV))))], n := 4, m := 49 : St})))))
theorem vE2_eq (a b c now : Int) (l : List Held) (I : Nat → St → Prop) (v : AV) : vE2 a b c now l I v = (evF Try.prog TQ Try.f60 [] (cutA 0 Try.f60 cE2 I) [qAV a b c (rowH l), .i .i64 now] [] [] v []) := by kernel_rfl

def vE2L (a b c now : Int) (l le en : List Held) (j : Nat) (I : Nat → St → Prop) (v : AV) : Prop :=
 (brP (decide ((((j : Nat) : Int) : Int) < (((List.length (Q.rowH l)) : Nat) : Int))) ((((0 : Int) : Int) ≤ ((j : Nat) : Int)) ∧
 (((((j : Nat) : Int) : Int) < (((List.length (Q.rowH l)) : Nat) : Int)) ∧
 (∃ x : ByteArray, (∃ x1 : ByteArray, (∃ n : Int, (∃ x2 : ByteArray, (∃ n1 : Int, (∃ n2 : Int, (∃ n3 : Int, (∃ n4 : Int, ((((Q.rowH l))[(Int.toNat ((j : Nat) : Int))]? = ((Option.some [(AV.s x), (AV.s x1), (AV.i IntKind.i64 n), (AV.s x2), (AV.i IntKind.i64 n1), (AV.i IntKind.i64 n2), (AV.i IntKind.i64 n3), (AV.i IntKind.i64 n4)]) : (Option (List AV)))) ∧
 (((List.length (([(AV.s x)] ++ ([(AV.s x1)] ++ ([] : List AV) : (List AV)) : (List AV)) ++ ([(AV.i IntKind.i64 n)] ++ ([(AV.s x2)] ++ ([(AV.i IntKind.i64 n1)] ++ ([(AV.i IntKind.i64 n2)] ++ ([(AV.i IntKind.i64 n3)] ++ ([(AV.i IntKind.i64 n4)] ++ ([] : List AV) : (List AV)) : (List AV)) : (List AV)) : (List AV)) : (List AV)) : (List AV)) : (List AV))) = (8 : Nat)) ∧
 (brP (decide ((n2 : Int) ≤ now)) ((((0 : Int) : Int) ≤ ((j : Nat) : Int)) ∧
 (((((j : Nat) : Int) : Int) < (((List.length (Q.rowH l)) : Nat) : Int)) ∧
 (∃ x3 : ByteArray, (∃ x4 : ByteArray, (∃ n5 : Int, (∃ x5 : ByteArray, (∃ n6 : Int, (∃ n7 : Int, (∃ n8 : Int, (∃ n9 : Int, ((((Q.rowH l))[(Int.toNat ((j : Nat) : Int))]? = ((Option.some [(AV.s x3), (AV.s x4), (AV.i IntKind.i64 n5), (AV.s x5), (AV.i IntKind.i64 n6), (AV.i IntKind.i64 n7), (AV.i IntKind.i64 n8), (AV.i IntKind.i64 n9)]) : (Option (List AV)))) ∧
 (((List.length (([(AV.s x3)] ++ ([(AV.s x4)] ++ ([] : List AV) : (List AV)) : (List AV)) ++ ([(AV.i IntKind.i64 n5)] ++ ([(AV.s x5)] ++ ([(AV.i IntKind.i64 n6)] ++ ([(AV.i IntKind.i64 n7)] ++ ([(AV.i IntKind.i64 n8)] ++ ([(AV.i IntKind.i64 n9)] ++ ([] : List AV) : (List AV)) : (List AV)) : (List AV)) : (List AV)) : (List AV)) : (List AV)) : (List AV))) = (8 : Nat)) ∧
 ((((((List.length (Q.rowH en)) + 1 : Nat) * 88 : Nat) : Nat) ≤ 140737488355328) ∧
 (((((List.length (Q.rowH en)) + 1 : Nat) : Nat) ≤ 9223372036854775807) ∧
 ((∀ (y : (List AV)), ((List.Mem y [[(AV.s x3), (AV.s x4), (AV.i IntKind.i64 n5), (AV.s x5), (AV.i IntKind.i64 n6), (AV.i IntKind.i64 n7), (AV.i IntKind.i64 n8), (AV.i IntKind.i64 n9)]]) → ((List.length y) = (8 : Nat)))) ∧
 ((AtL (hd Try.f60 5) (hd Try.f60 5)) ∧
 (I 5 { t := [(1, (AV.i IntKind.i64 now)), (2, (AV.ptr 0 0)), (4, (AV.ptr 1 0)), (7, (AV.own 2)), (8, (AV.own 3)), (9, (AV.i IntKind.i64 (IntKind.wrap IntKind.i64 (((j : Nat) : Int) + (1 : Int) : Int))))], σ := [(0, (Blk.cells [(AV.i IntKind.i64 a), (AV.i IntKind.i64 b), (AV.i IntKind.i64 c), (AV.sl (Q.rowH l))])), (1, (Blk.cells [(AV.i IntKind.i64 (0 : Int)), (AV.i IntKind.i64 (0 : Int)), (AV.i IntKind.i64 (0 : Int)), (AV.sl ([] : List (List AV)))])), (2, (Blk.row 41 8 (Q.rowH le))), (3, (Blk.row 41 8 ((Q.rowH en) ++ [[(AV.s x3), (AV.s x4), (AV.i IntKind.i64 n5), (AV.s x5), (AV.i IntKind.i64 n6), (AV.i IntKind.i64 n7), (AV.i IntKind.i64 n8), (AV.i IntKind.i64 n9)]] : (List (List AV)))))], n := 4, m := 49 : St}))))))))))))))))) ((((0 : Int) : Int) ≤ ((j : Nat) : Int)) ∧
 (((((j : Nat) : Int) : Int) < (((List.length (Q.rowH l)) : Nat) : Int)) ∧
 (∃ x3 : ByteArray, (∃ x4 : ByteArray, (∃ n5 : Int, (∃ x5 : ByteArray, (∃ n6 : Int, (∃ n7 : Int, (∃ n8 : Int, (∃ n9 : Int, ((((Q.rowH l))[(Int.toNat ((j : Nat) : Int))]? = ((Option.some [(AV.s x3), (AV.s x4), (AV.i IntKind.i64 n5), (AV.s x5), (AV.i IntKind.i64 n6), (AV.i IntKind.i64 n7), (AV.i IntKind.i64 n8), (AV.i IntKind.i64 n9)]) : (Option (List AV)))) ∧
 (((List.length (([(AV.s x3)] ++ ([(AV.s x4)] ++ ([] : List AV) : (List AV)) : (List AV)) ++ ([(AV.i IntKind.i64 n5)] ++ ([(AV.s x5)] ++ ([(AV.i IntKind.i64 n6)] ++ ([(AV.i IntKind.i64 n7)] ++ ([(AV.i IntKind.i64 n8)] ++ ([(AV.i IntKind.i64 n9)] ++ ([] : List AV) : (List AV)) : (List AV)) : (List AV)) : (List AV)) : (List AV)) : (List AV)) : (List AV))) = (8 : Nat)) ∧
 ((((((List.length (Q.rowH le)) + 1 : Nat) * 88 : Nat) : Nat) ≤ 140737488355328) ∧
 (((((List.length (Q.rowH le)) + 1 : Nat) : Nat) ≤ 9223372036854775807) ∧
 ((∀ (y : (List AV)), ((List.Mem y [[(AV.s x3), (AV.s x4), (AV.i IntKind.i64 n5), (AV.s x5), (AV.i IntKind.i64 n6), (AV.i IntKind.i64 n7), (AV.i IntKind.i64 n8), (AV.i IntKind.i64 n9)]]) → ((List.length y) = (8 : Nat)))) ∧
 ((AtL (hd Try.f60 5) (hd Try.f60 5)) ∧
 (I 5 { t := [(1, (AV.i IntKind.i64 now)), (2, (AV.ptr 0 0)), (4, (AV.ptr 1 0)), (7, (AV.own 2)), (8, (AV.own 3)), (9, (AV.i IntKind.i64 (IntKind.wrap IntKind.i64 (((j : Nat) : Int) + (1 : Int) : Int))))], σ := [(0, (Blk.cells [(AV.i IntKind.i64 a), (AV.i IntKind.i64 b), (AV.i IntKind.i64 c), (AV.sl (Q.rowH l))])), (1, (Blk.cells [(AV.i IntKind.i64 (0 : Int)), (AV.i IntKind.i64 (0 : Int)), (AV.i IntKind.i64 (0 : Int)), (AV.sl ([] : List (List AV)))])), (2, (Blk.row 41 8 ((Q.rowH le) ++ [[(AV.s x3), (AV.s x4), (AV.i IntKind.i64 n5), (AV.s x5), (AV.i IntKind.i64 n6), (AV.i IntKind.i64 n7), (AV.i IntKind.i64 n8), (AV.i IntKind.i64 n9)]] : (List (List AV))))), (3, (Blk.row 41 8 (Q.rowH en)))], n := 4, m := 49 : St})))))))))))))))))))))))))))))) (((AV.tup [(AV.ag [(AV.i IntKind.i64 a), (AV.i IntKind.i64 b), (AV.i IntKind.i64 c), (AV.sl (Q.rowH le))]), (AV.sl (Q.rowH en)), (AV.i IntKind.i64 (0 : Int))]) = (v : AV)) ∧
 (([] : List (Prod Nat Blk)) = (([] : List (Prod Nat Blk)) : Heap))))
theorem vE2L_eq (a b c now : Int) (l le en : List Held) (j : Nat) (I : Nat → St → Prop) (v : AV) : vE2L a b c now l le en j I v = (evL Try.prog TQ Try.f60 [] (cutA 0 Try.f60 cE2 I) 5 (iE2 a b c now l le en j) 0 [] v []) := by kernel_rfl

end Go.AM.Q
set_option maxRecDepth 100000
set_option linter.unusedVariables false
set_option linter.unusedSimpArgs false
namespace Go.AM.Q
open Go.Proofs
/-! ### Strings in order -/
abbrev cb := Lib.compareBytes
theorem u8_tri (a b : UInt8) : a < b ∨ b < a ∨ a = b := by
  rcases Nat.lt_trichotomy a.toNat b.toNat with h | h | h
  · exact .inl (UInt8.lt_iff_toNat_lt.2 h)
  · exact .inr (.inr (UInt8.toNat_inj.1 h))
  · exact .inr (.inl (UInt8.lt_iff_toNat_lt.2 h))
theorem u8_irr {a b : UInt8} (h : a < b) : ¬ b < a := by
  rw [UInt8.lt_iff_toNat_lt] at *
  omega
theorem u8_trans {a b c : UInt8} (h : a < b) (k : b < c) : a < c := by
  rw [UInt8.lt_iff_toNat_lt] at *
  omega
theorem u8_self (a : UInt8) : ¬ a < a := by
  rw [UInt8.lt_iff_toNat_lt]
  omega
theorem cb_self : ∀ l, cb l l = 0
  | [] => rfl
  | a :: r => by simp [cb, Lib.compareBytes, u8_self, cb_self r]
theorem cb_zero : ∀ {l m}, cb l m = 0 → l = m
  | [], [], _ => rfl
  | [], _ :: _, h => by simp [cb, Lib.compareBytes] at h
  | _ :: _, [], h => by simp [cb, Lib.compareBytes] at h
  | a :: r, b :: s, h => by
    simp only [cb, Lib.compareBytes] at h
    split at h
    · simp at h
    · split at h
      · simp at h
      · rcases u8_tri a b with h1 | h1 | h1
        · contradiction
        · contradiction
        · rw [h1, cb_zero h]
theorem cb_swap : ∀ l m, cb m l = - cb l m
  | [], [] => rfl
  | [], _ :: _ => rfl
  | _ :: _, [] => rfl
  | a :: r, b :: s => by
    simp only [cb, Lib.compareBytes]
    rcases u8_tri a b with h1 | h1 | h1
    · simp [h1, u8_irr h1]
    · simp [h1, u8_irr h1]
    · subst h1; simp [u8_self]; exact cb_swap r s
theorem cb_rng : ∀ l m, cb l m = -1 ∨ cb l m = 0 ∨ cb l m = 1
  | [], [] => by simp [cb, Lib.compareBytes]
  | [], _ :: _ => by simp [cb, Lib.compareBytes]
  | _ :: _, [] => by simp [cb, Lib.compareBytes]
  | a :: r, b :: s => by
    simp only [cb, Lib.compareBytes]
    split
    · simp
    · split
      · simp
      · exact cb_rng r s
theorem cb_trans : ∀ {l m n}, cb l m < 0 → cb m n < 0 → cb l n < 0
  | [], [], _, h, _ => by simp [cb, Lib.compareBytes] at h
  | [], _ :: _, [], _, k => by simp [cb, Lib.compareBytes] at k
  | [], _ :: _, _ :: _, _, _ => by simp [cb, Lib.compareBytes]
  | _ :: _, [], _, h, _ => by simp [cb, Lib.compareBytes] at h
  | _ :: _, _ :: _, [], _, k => by simp [cb, Lib.compareBytes] at k
  | a :: r, b :: s, c :: t, h, k => by
    simp only [cb, Lib.compareBytes] at *
    rcases u8_tri a b with h1 | h1 | h1
    · rcases u8_tri b c with h2 | h2 | h2
      · simp [u8_trans h1 h2]
      · simp [h2, u8_irr h2] at k
      · subst h2; simp [h1]
    · simp [h1, u8_irr h1] at h
    · subst h1
      rcases u8_tri a c with h2 | h2 | h2
      · simp [h2]
      · simp [h2, u8_irr h2] at k
      · subst h2
        simp [u8_self] at h k ⊢
        exact cb_trans h k
theorem less_cb : ∀ l m, Op.bytesLess l m = decide (cb l m < 0)
  | [], [] => rfl
  | [], _ :: _ => rfl
  | _ :: _, [] => rfl
  | a :: r, b :: s => by
    simp only [Op.bytesLess, cb, Lib.compareBytes]
    rcases u8_tri a b with h1 | h1 | h1
    · simp [h1]
    · have h2 : ¬ a < b := u8_irr h1
      have h3 : a ≠ b := fun e => u8_self b (e ▸ h1)
      simp [h1, h2, h3]
    · subst h1
      simp [u8_self, less_cb r s]
def cbs (x y : ByteArray) : Int := cb x.data.toList y.data.toList
theorem data_inj {x y : ByteArray} (h : x.data.toList = y.data.toList) : x = y := toList_inj (by rw [ByteArray.toList_eq, ByteArray.toList_eq, h])
theorem cbs_self (x : ByteArray) : cbs x x = 0 := cb_self _
theorem cbs_zero {x y : ByteArray} (h : cbs x y = 0) : x = y := data_inj (cb_zero h)
theorem cbs_swap (x y : ByteArray) : cbs y x = - cbs x y := cb_swap _ _
theorem cbs_trans {x y z : ByteArray} (h : cbs x y < 0) (k : cbs y z < 0) : cbs x z < 0 := cb_trans h k
theorem cmpS_cbs (x y : ByteArray) : cmpS x y = cbs x y := by
  unfold cmpS
  rw [less_cb, ByteArray.toList_eq, ByteArray.toList_eq]
  have hr := cb_rng x.data.toList y.data.toList
  cases h : strEq x y with
  | true =>
    rw [strEq_iff] at h
    subst h
    simp [cbs, cb_self]
  | false =>
    rw [strEq_ne] at h
    have h0 : cb x.data.toList y.data.toList ≠ 0 := fun e => h (cbs_zero e)
    show _ = cb x.data.toList y.data.toList
    rcases hr with e | e | e
    · simp [e]
    · exact absurd e h0
    · simp [e]
/-! ### Entries in order -/
/-- Comes h before k? -/
def Lt (h k : Held) : Prop := cbs h.p k.p < 0 ∨ (h.p = k.p ∧ (cbs h.t k.t < 0 ∨ (h.t = k.t ∧ (h.e < k.e ∨ (h.e = k.e ∧ h.f < k.f)))))
theorem cmpI_cases (x y : Int) : (x < y ∧ cmpI x y = -1) ∨ (x = y ∧ cmpI x y = 0) ∨ (y < x ∧ cmpI x y = 1) := by
  unfold cmpI
  rcases Int.lt_trichotomy x y with h | h | h
  · left; simp [h]
  · right; left; subst h; simp
  · right; right; simp [h, Int.not_lt.2 (Int.le_of_lt h)]
theorem cmp_lt (h k : Held) : compareI h k < 0 ↔ Lt h k := by
  unfold compareI Lt
  rw [cmpS_cbs, cmpS_cbs]
  simp only [orS]
  by_cases h1 : cbs h.p k.p = 0
  · have e1 := cbs_zero h1
    by_cases h2 : cbs h.t k.t = 0
    · have e2 := cbs_zero h2
      rw [h1, h2]
      rcases cmpI_cases h.e k.e with ⟨a, b⟩ | ⟨a, b⟩ | ⟨a, b⟩ <;> rcases cmpI_cases h.f k.f with ⟨c, d⟩ | ⟨c, d⟩ | ⟨c, d⟩ <;> simp [b, d, e1, e2] <;> omega
    · have n2 : h.t ≠ k.t := fun e => h2 (by rw [e]; exact cbs_self _)
      rw [h1]
      simp [h2, n2, e1]
  · have n1 : h.p ≠ k.p := fun e => h1 (by rw [e]; exact cbs_self _)
    simp [h1, n1]
theorem cmp_eq0 (h k : Held) : compareI h k = 0 ↔ h.p = k.p ∧ h.t = k.t ∧ h.e = k.e ∧ h.f = k.f := by
  unfold compareI
  rw [cmpS_cbs, cmpS_cbs]
  simp only [orS]
  by_cases h1 : cbs h.p k.p = 0
  · have e1 := cbs_zero h1
    by_cases h2 : cbs h.t k.t = 0
    · have e2 := cbs_zero h2
      rw [h1, h2]
      rcases cmpI_cases h.e k.e with ⟨a, b⟩ | ⟨a, b⟩ | ⟨a, b⟩ <;> rcases cmpI_cases h.f k.f with ⟨c, d⟩ | ⟨c, d⟩ | ⟨c, d⟩ <;> simp [b, d, e1, e2] <;> omega
    · have n2 : h.t ≠ k.t := fun e => h2 (by rw [e]; exact cbs_self _)
      rw [h1]
      simp [h2, n2, e1]
  · have n1 : h.p ≠ k.p := fun e => h1 (by rw [e]; exact cbs_self _)
    simp [h1, n1]
theorem Lt.trans {a b c : Held} (h : Lt a b) (k : Lt b c) : Lt a c := by
  unfold Lt at *
  rcases h with h | ⟨h1, h⟩
  · rcases k with k | ⟨k1, k⟩
    · exact .inl (cbs_trans h k)
    · rw [← k1]; exact .inl h
  · rcases k with k | ⟨k1, k⟩
    · rw [h1]; exact .inl k
    · refine .inr ⟨h1.trans k1, ?_⟩
      rcases h with h | ⟨h2, h⟩
      · rcases k with k | ⟨k2, k⟩
        · exact .inl (cbs_trans h k)
        · rw [← k2]; exact .inl h
      · rcases k with k | ⟨k2, k⟩
        · rw [h2]; exact .inl k
        · exact .inr ⟨h2.trans k2, by omega⟩
theorem Lt.irr (a : Held) : ¬ Lt a a := by
  unfold Lt
  rw [cbs_self, cbs_self]
  omega
theorem Lt.asymm {a b : Held} (h : Lt a b) : ¬ Lt b a := fun k => Lt.irr a (h.trans k)
theorem Lt.total (a b : Held) : Lt a b ∨ Lt b a ∨ compareI a b = 0 := by
  rw [cmp_eq0]
  unfold Lt
  have s1 := cbs_swap a.p b.p
  have s2 := cbs_swap a.t b.t
  by_cases h1 : a.p = b.p
  · by_cases h2 : a.t = b.t
    · simp only [h1, h2, cbs_self, true_and, Int.lt_irrefl, false_or]; omega
    · have : cbs a.t b.t ≠ 0 := fun e => h2 (cbs_zero e)
      have h2' : ¬ b.t = a.t := fun e => h2 e.symm
      simp only [h1, h2, h2', true_and, false_and, or_false, and_false]
      omega
  · have : cbs a.p b.p ≠ 0 := fun e => h1 (cbs_zero e)
    simp only [h1, false_and, or_false]
    omega
theorem meetsB_iff (h k : Held) : meetsB h k = true ↔ h.p = k.p ∧ h.t = k.t ∧ h.e = k.e ∧ h.f < k.u ∧ k.f < h.u := by
  simp only [meetsB, Bool.and_eq_true, strEq_iff, decide_eq_true_eq, and_assoc]
theorem meetsB_comm (h k : Held) : meetsB h k = meetsB k h := by
  rw [Bool.eq_iff_iff, meetsB_iff, meetsB_iff]
  constructor <;> rintro ⟨a, b, c, d, e⟩ <;> exact ⟨a.symm, b.symm, c.symm, e, d⟩
/-- What two entries of a quarantine, one behind the other, are to each other. -/
def Rel (y x : Held) : Prop := meetsB y x = false ∧ Lt y x
theorem Rel.trans {a b c : Held} (hb : b.f < b.u) (h : Rel a b) (k : Rel b c) : Rel a c := by
  refine ⟨?_, h.2.trans k.2⟩
  have h1 := h.1
  have h2 := h.2
  have k2 := k.2
  rw [← Bool.not_eq_true, meetsB_iff] at h1 ⊢
  rintro ⟨e1, e2, e3, e4, e5⟩
  -- the one between is of the same test
  have hp : a.p = b.p ∧ a.t = b.t ∧ a.e = b.e ∧ a.f < b.f ∧ b.f < c.f := by
    unfold Lt at h2 k2
    rw [← e1, ← e2, ← e3] at k2
    have s1 := cbs_swap a.p b.p
    have s2 := cbs_swap a.t b.t
    rcases h2 with h | ⟨h, h2⟩
    · rcases k2 with k | ⟨k, k2⟩
      · omega
      · rw [k, cbs_self] at h; omega
    · rcases k2 with k | ⟨k, k2⟩
      · rw [h, cbs_self] at k; omega
      · refine ⟨h, ?_⟩
        rcases h2 with h | ⟨h, h2⟩
        · rcases k2 with k | ⟨k, k2⟩
          · omega
          · rw [k, cbs_self] at h; omega
        · rcases k2 with k | ⟨k, k2⟩
          · rw [h, cbs_self] at k; omega
          · exact ⟨h, by omega⟩
  exact h1 ⟨hp.1, hp.2.1, hp.2.2.1, by omega, by omega⟩
/-- The entries are right, for the numbers a and c. -/
structure Good (a c : Int) (l : List Held) : Prop where
  ent : ∀ x ∈ l, entryB c x = true
  cnt : ∀ x ∈ l, (cntO x.by' l : Int) ≤ a
  rel : l.Pairwise Rel
theorem entry_fu {c : Int} {x : Held} (h : entryB c x = true) : x.f < x.u := by
  simp only [entryB, Bool.and_eq_true, decide_eq_true_eq] at h
  omega
theorem cntO_app (o : ByteArray) (l m : List Held) : cntO o (l ++ m) = cntO o l + cntO o m := by simp [cntO]
theorem ckFrom_iff {a c : Int} : ∀ (rest seen : List Held), Good a c seen → (ckFrom a c seen rest = true ↔ Good a c (seen ++ rest))
  | [], seen, hg => by simpa [ckFrom] using hg
  | x :: r, seen, hg => by
    have hlast : (match seen.getLast? with | none => true | some p => decide (compareI p x < 0) && !meetsB p x) = true ↔ ∀ p, seen.getLast? = some p → Rel p x := by
      cases hs : seen.getLast? with
      | none => simp
      | some p => simp [Rel, cmp_lt, and_comm]
    have e : seen ++ x :: r = (seen ++ [x]) ++ r := by simp
    rw [e]
    constructor
    · intro h
      simp only [ckFrom, Bool.and_eq_true, decide_eq_true_eq] at h
      obtain ⟨⟨⟨h1, h2⟩, h3⟩, h4⟩ := h
      have h3 := hlast.1 h3
      refine (ckFrom_iff r (seen ++ [x]) ⟨fun y hy => ?_, fun y hy => ?_, ?_⟩).1 h4
      · rcases List.mem_append.1 hy with h | h
        · exact hg.ent y h
        · simp at h; subst h; exact h1
      · by_cases hb : y.by' = x.by'
        · rw [hb]; exact h2
        · rcases List.mem_append.1 hy with h | h
          · have := hg.cnt y h
            rw [cntO_snoc, if_neg (fun e => hb e.symm)]
            simpa using this
          · simp at h; subst h; exact absurd rfl hb
      · rw [List.pairwise_append]
        refine ⟨hg.rel, by simp, fun y hy z hz => ?_⟩
        simp at hz
        subst hz
        rcases List.eq_nil_or_concat seen with hn | ⟨s, p, hs⟩
        · subst hn; simp at hy
        · have hp := h3 p (by rw [hs]; simp)
          rw [hs, List.concat_eq_append] at hy
          rcases List.mem_append.1 hy with h | h
          · have hr := hg.rel
            rw [hs, List.concat_eq_append, List.pairwise_append] at hr
            exact (hr.2.2 y h p (by simp)).trans (entry_fu (hg.ent p (by rw [hs]; simp))) hp
          · simp at h; subst h; exact hp
    · intro h
      have hsub : Good a c (seen ++ [x]) := ⟨fun y hy => h.ent y (List.mem_append_left _ hy), fun y hy => by
        have := h.cnt y (List.mem_append_left _ hy)
        rw [cntO_app] at this
        omega, (List.pairwise_append.1 h.rel).1⟩
      simp only [ckFrom, Bool.and_eq_true, decide_eq_true_eq]
      refine ⟨⟨⟨hsub.ent x (by simp), hsub.cnt x (by simp)⟩, hlast.2 fun p hp => ?_⟩, (ckFrom_iff r (seen ++ [x]) hsub).2 h⟩
      exact (List.pairwise_append.1 hsub.rel).2.2 p (List.mem_of_getLast? hp) x (by simp)
theorem Good.nil (a c : Int) : Good a c [] := ⟨by simp, by simp, .nil⟩
theorem check_iff {a b c : Int} {l : List Held} : checkB a b c l = true ↔ sizesB a b c = true ∧ (l.length : Int) ≤ b ∧ Good a c l := by
  simp only [checkB, Bool.and_eq_true, decide_eq_true_eq, and_assoc]
  rw [ckFrom_iff l [] (.nil a c)]
  simp
/-- The same, as the reference asks it. -/
def ck2 (a c : Int) (l : List Held) : List Held → List Held → Bool
  | _, [] => true
  | seen, x :: r => entryB c x && decide ((cntO x.by' l : Int) ≤ a) && seen.all (fun y => !meetsB y x && decide (compareI y x < 0)) && ck2 a c l (seen ++ [x]) r
theorem ck2_iff {a c : Int} {l : List Held} : ∀ (rest seen : List Held), ck2 a c l seen rest = true ↔ (∀ x ∈ rest, entryB c x = true) ∧ (∀ x ∈ rest, (cntO x.by' l : Int) ≤ a) ∧ (∀ x ∈ rest, ∀ y ∈ seen, Rel y x) ∧ rest.Pairwise Rel
  | [], seen => by simp [ck2]
  | x :: r, seen => by
    have hall : seen.all (fun y => !meetsB y x && decide (compareI y x < 0)) = true ↔ ∀ y ∈ seen, Rel y x := by
      simp [List.all_eq_true, Rel, cmp_lt]
    simp only [ck2, Bool.and_eq_true, decide_eq_true_eq, hall, ck2_iff r (seen ++ [x]), List.mem_cons, forall_eq_or_imp, List.pairwise_cons, List.mem_append, List.mem_singleton]
    constructor
    · rintro ⟨⟨⟨h1, h2⟩, h3⟩, h4, h5, h6, h7⟩
      exact ⟨⟨h1, h4⟩, ⟨h2, h5⟩, ⟨h3, fun z hz y hy => h6 z hz y (.inl hy)⟩, fun z hz => h6 z hz x (.inr (.inl rfl)), h7⟩
    · rintro ⟨⟨h1, h4⟩, ⟨h2, h5⟩, ⟨h3, h6⟩, h8, h7⟩
      exact ⟨⟨⟨h1, h2⟩, h3⟩, h4, h5, fun z hz y hy => hy.elim (h6 z hz y) (fun e => by rcases e with rfl | e; exact h8 z hz; cases e), h7⟩
theorem ck2_check (a b c : Int) (l : List Held) : (sizesB a b c && decide ((l.length : Int) ≤ b) && ck2 a c l [] l) = checkB a b c l := by
  rw [Bool.eq_iff_iff, check_iff]
  simp only [Bool.and_eq_true, decide_eq_true_eq, and_assoc]
  rw [ck2_iff]
  constructor
  · rintro ⟨h1, h2, h3, h4, _, h5⟩
    exact ⟨h1, h2, h3, h4, h5⟩
  · rintro ⟨h1, h2, h3⟩
    exact ⟨h1, h2, h3.ent, h3.cnt, by simp, h3.rel⟩
end Go.AM.Q
set_option maxRecDepth 100000
set_option linter.unusedVariables false
set_option linter.unusedSimpArgs false
namespace Go.AM.Q
open Go.Proofs
theorem strEq_empty (x : ByteArray) : strEq x ⟨#[]⟩ = !decide (0 < (x.size : Int)) := by
  rw [Bool.eq_iff_iff, strEq_iff]
  simp only [Bool.not_eq_true', decide_eq_false_iff_not]
  constructor
  · rintro rfl
    show ¬ 0 < ((0 : Nat) : Int)
    omega
  · intro h
    apply data_inj
    have : x.data.size = 0 := by
      have : x.size = x.data.size := rfl
      omega
    simp [Array.eq_empty_of_size_eq_zero this]
theorem usa_calls (x y : ByteArray) : ACalls Try.prog 64 [.ag [.s x, .s y]] [] (.b (usableB x y)) [] :=
  acalls_vc (vUsa_eq x y _) (by kernel_rfl) (by kernel_rfl) noK_runs (by
    simp only [vUsa, brP_iff, usableB, strEq_empty]
    have h1 : 0 ≤ (x.size : Int) := by omega
    have h2 : 0 ≤ (y.size : Int) := by omega
    grind)
theorem pla_calls (n : Int) : ACalls Try.prog 65 [.i .i64 n] [] (.b (decide (0 ≤ n) && decide (n ≤ 63))) [] :=
  acalls_vc (vPla_eq n _) (by kernel_rfl) (by kernel_rfl) noK_runs (by
    simp only [vPla, brP_iff]
    grind)
def usbB (x y o : ByteArray) (n : Int) : Bool := usableB x y && decide (0 ≤ n) && decide (n ≤ 63) && !strEq o ⟨#[]⟩ && decide ((o.size : Int) ≤ 24)
theorem usb_calls (x y o : ByteArray) (n : Int) : ACalls Try.prog 36 [.ag [.s x, .s y], .i .i64 n, .s o] [] (.b (usbB x y o n)) [] :=
  acalls_vc (vUsb_eq x y o n _) (by kernel_rfl) (by kernel_rfl) noK_runs (by
    have hu := usa_calls x y
    have hp := pla_calls n
    have h1 : 0 ≤ (o.size : Int) := by omega
    simp only [vUsb, brP_iff, usbB, strEq_empty]
    refine ⟨_, hu, fun h => ⟨_, hp, ?_⟩, fun h => ?_⟩
    · grind
    · grind)
theorem sameT_calls (h k : Held) : ACalls Try.prog 66 [.ag h.cells, .ag k.cells] [] (.b (strEq h.p k.p && strEq h.t k.t && decide (h.e = k.e))) [] :=
  acalls_vc (vSame_eq h k _) (by kernel_rfl) (by kernel_rfl) noK_runs (by
    simp only [vSame, brP_iff]
    grind)
theorem meet_calls (h k : Held) : ACalls Try.prog 38 [.ag h.cells, .ag k.cells] [] (.b (meetsB h k)) [] :=
  acalls_vc (vMeet_eq h k _) (by kernel_rfl) (by kernel_rfl) noK_runs (by
    simp only [vMeet, brP_iff, meetsB]
    refine ⟨_, sameT_calls h k, ?_⟩
    grind)
theorem cmpN (x y : ByteArray) (F : Nat → Option Blk) : NCalls Try.prog 83 [.s x, .s y] F (.i .i64 (cbs x y)) := by
  intro w β ok σ vs hargs hm hF
  have hsz : vs.size = 2 := hargs.1.symm
  obtain ⟨v0, v1, rfl⟩ : ∃ v0 v1, vs = #[v0, v1] := by
    match vs, hsz with
    | ⟨[a, b]⟩, _ => exact ⟨a, b, rfl⟩
  have r0 := rep_str (hargs.2 0 _ v0 rfl rfl)
  have r1 := rep_str (hargs.2 1 _ v1 rfl rfl)
  subst r0
  subst r1
  refine ⟨_, ?_, .p (.i _ _)⟩
  rw [run_callFunc_extern (f := 83) (fn := Try.f83) (by kernel_rfl) (by kernel_rfl) (by kernel_rfl) (by kernel_rfl) (e := Extern.BytealgCompare.compare) (by kernel_rfl), Lib.run_compareString]
  rfl
theorem cst_calls (x y : ByteArray) : ACalls Try.prog 81 [.s x, .s y] [] (.i .i64 (cbs x y)) [] :=
  acalls_vc (vCSt_eq x y _) (by kernel_rfl) (by kernel_rfl) noK_runs ⟨_, cmpN x y _, rfl, rfl⟩
theorem sco_calls (x y : ByteArray) : ACalls Try.prog 78 [.s x, .s y] [] (.i .i64 (cbs x y)) [] :=
  acalls_vc (vSCo_eq x y _) (by kernel_rfl) (by kernel_rfl) noK_runs ⟨_, cst_calls x y, rfl, rfl⟩
def ordI (x y x' y' : ByteArray) : Int := bif decide (cbs x x' = 0) then cbs y y' else cbs x x'
theorem order_calls (x y x' y' : ByteArray) : ACalls Try.prog 67 [.ag [.s x, .s y], .ag [.s x', .s y']] [] (.i .i64 (ordI x y x' y')) [] :=
  acalls_vc (vOrder_eq x y x' y' _) (by kernel_rfl) (by kernel_rfl) noK_runs (by
    have h2 := sco_calls y y'
    simp only [vOrder, brP_iff, ordI]
    refine ⟨_, sco_calls x x', ?_⟩
    by_cases h : cbs x x' = 0
    · simp [h, h2]
    · simp [h])
theorem less_calls (h k : Held) : ACalls Try.prog 39 [.ag h.cells, .ag k.cells] [] (.b (decide (compareI h k < 0))) [] :=
  acalls_vc (vLess_eq h k _) (by kernel_rfl) (by kernel_rfl) noK_runs (by
    simp only [vLess, brP_iff]
    refine ⟨_, order_calls h.p h.t k.p k.t, ?_⟩
    have hl := cmp_lt h k
    have key : ∀ b : Bool, (b = true ↔ Lt h k) → AV.b b = AV.b (decide (compareI h k < 0)) ∧ True := by
      intro b hb
      refine ⟨?_, trivial⟩
      congr 1
      rw [Bool.eq_iff_iff, hb, decide_eq_true_eq, hl]
    have s1 : h.p = k.p ↔ cbs h.p k.p = 0 := ⟨fun e => by rw [e]; exact cbs_self _, cbs_zero⟩
    have s2 : h.t = k.t ↔ cbs h.t k.t = 0 := ⟨fun e => by rw [e]; exact cbs_self _, cbs_zero⟩
    unfold Lt at key
    simp only [s1, s2] at key
    unfold ordI
    generalize cbs h.p k.p = a at *
    generalize cbs h.t k.t = b at *
    by_cases ha : a = 0
    · subst ha
      simp only [decide_true, cond_true]
      refine ⟨fun h1 => key _ (by simp at h1 ⊢; omega), fun h1 => ⟨fun h2 => key _ (by simp at h1 h2 ⊢; omega), fun h2 => key _ (by simp at h1 h2 ⊢; omega)⟩⟩
    · simp only [ha, decide_false, cond_false]
      refine ⟨fun h1 => key _ (by simp [ha] at h1 ⊢), fun h1 => ?_⟩
      simp [ha] at h1)
/-! ### owned, find, with -/
theorem ow_loop (a b c : Int) (l : List Held) (o : ByteArray) (hl : l.length < 4294967296) : ∀ (k j : Nat), l.length - j = k → j ≤ l.length → Runs Try.prog 37 0 (hd Try.f37 3) (iOw a b c l o (cntO o (l.take j)) j) (RetR 0 [] (.i .i64 (cntO o l)) []) := by
  intro k
  induction k with
  | zero =>
    intro j hk hj
    have hj' : j = l.length := by omega
    subst hj'
    rw [List.take_length]
    refine runs_vc (vOwL_eq a b c l o _ _ (fun _ _ => False) _) (by kernel_rfl) (fun todo s h => Runs.cutA h (fun _ _ h => h.elim)) ?_
    simp [vOwL, brP_iff, rowH_len]
  | succ k ih =>
    intro j hk hj
    have hlt : j < l.length := by omega
    have htk : l.take j ++ [l[j]] = l.take (j+1) := (List.take_succ_eq_append_getElem hlt).symm
    have hcnt := cntO_le o (l.take j)
    have hcl : (l.take j).length ≤ l.length := by simp; omega
    refine runs_vc (vOwL_eq a b c l o _ j (fun id s => id = 3 ∧ s = iOw a b c l o (cntO o (l.take (j+1))) (j+1)) _) (by kernel_rfl) (fun todo s h => Runs.cutA h ?_) ?_
    · rintro id s' ⟨rfl, rfl⟩
      exact ih (j+1) (by omega) (by omega)
    · have hs := cntO_snoc o (l.take j) l[j]
      rw [htk] at hs
      have hg := rowH_get hlt
      simp only [vOwL, brP_iff]
      refine ⟨fun _ => ⟨by omega, by rw [rowH_len]; omega, exH hlt rfl ⟨fun h => ⟨by trivial, by trivial, ?_⟩, fun h => ⟨by trivial, by trivial, ?_⟩⟩⟩, fun h => absurd h (by simp [rowH_len]; omega)⟩
      · rw [strEq_iff] at h
        rw [if_pos h] at hs
        simp only [iOw]
        rw [wrap_id (by omega) (by omega), wrap_id (by omega) (by omega), hs]
        rfl
      · rw [strEq_ne] at h
        rw [if_neg h] at hs
        simp only [iOw]
        rw [wrap_id (by omega) (by omega), hs]
        rfl
theorem ow_calls (a b c : Int) (l : List Held) (o : ByteArray) (hl : l.length < 4294967296) : ACalls Try.prog 37 [qAV a b c (rowH l), .s o] [] (.i .i64 (cntO o l)) [] :=
  acalls_vc (vOw_eq a b c l o (fun id s => id = 3 ∧ s = iOw a b c l o (cntO o (l.take 0)) 0) _) (by kernel_rfl) (by kernel_rfl) (fun todo s h => Runs.cutA h (fun id s' e => by
    obtain ⟨rfl, rfl⟩ := e
    exact ow_loop a b c l o hl _ 0 rfl (Nat.zero_le _))) ⟨by trivial, by trivial, rfl⟩
theorem fi_loop (a b c : Int) (l : List Held) (m : Mom) (hl : l.length < 4294967296) : ∀ (k j : Nat), l.length - j = k → j ≤ l.length → Runs Try.prog 76 0 (hd Try.f76 2) (iFi a b c l m j) (RetR 0 [] (.i .i64 (idxP (heldB m) j (l.drop j))) []) := by
  intro k
  induction k with
  | zero =>
    intro j hk hj
    have hj' : j = l.length := by omega
    subst hj'
    refine runs_vc (vFiL_eq a b c l m _ (fun _ _ => False) _) (by kernel_rfl) (fun todo s h => Runs.cutA h (fun _ _ h => h.elim)) ?_
    simp [vFiL, brP_iff, rowH_len, idxP]
  | succ k ih =>
    intro j hk hj
    have hlt : j < l.length := by omega
    have hd : l.drop j = l[j] :: l.drop (j+1) := List.drop_eq_getElem_cons hlt
    have hw : IntKind.i64.wrap ((j : Int) + 1) = ((j + 1 : Nat) : Int) := by rw [wrap_id (by omega) (by omega)]; simp
    refine runs_vc (vFiL_eq a b c l m j (fun id s => id = 2 ∧ s = iFi a b c l m (j+1) ∧ heldB m l[j] = false) _) (by kernel_rfl) (fun todo s h => Runs.cutA h ?_) ?_
    · rintro id s' ⟨rfl, rfl, h0⟩
      have := ih (j+1) (by omega) (by omega)
      rw [hd]
      simpa only [idxP, h0, cond_false, Int.natCast_add, Int.cast_ofNat_Int] using this
    · have yes : heldB m l[j] = true → AV.i .i64 (j : Int) = AV.i .i64 (idxP (heldB m) j (l.drop j)) := by
        intro h
        rw [hd, idxP, h]
        rfl
      simp only [vFiL, brP_iff, hw]
      refine ⟨fun _ => ⟨by omega, by rw [rowH_len]; omega, exH hlt rfl ?_⟩, fun h => absurd h (by simp [rowH_len]; omega)⟩
      refine ⟨fun h1 => ⟨fun h2 => ⟨fun h3 => ⟨fun h4 => ⟨yes ?_, by trivial⟩, fun h4 => ⟨by trivial, by trivial, rfl, ?_⟩⟩, fun h3 => ⟨by trivial, by trivial, rfl, ?_⟩⟩, fun h2 => ⟨by trivial, by trivial, rfl, ?_⟩⟩, fun h1 => ⟨by trivial, by trivial, rfl, ?_⟩⟩
      all_goals (simp only [heldB]; grind)
theorem fi_calls (a b c : Int) (l : List Held) (m : Mom) (hl : l.length < 4294967296) : ACalls Try.prog 76 [qAV a b c (rowH l), .ag [.s m.p, .s m.t], .i .i64 m.e, .i .i64 m.now] [] (.i .i64 (idxP (heldB m) 0 l)) [] :=
  acalls_vc (vFi_eq a b c l m (fun id s => id = 2 ∧ s = iFi a b c l m 0) _) (by kernel_rfl) (by kernel_rfl) (fun todo s h => Runs.cutA h (fun id s' e => by
    obtain ⟨rfl, rfl⟩ := e
    exact fi_loop a b c l m hl _ 0 rfl (Nat.zero_le _))) ⟨by trivial, by trivial, rfl⟩
theorem with_calls (a b c : Int) (l : List Held) (i : Nat) (x : Held) (hi : i < l.length) (hl : l.length < 4294967296) : ACalls Try.prog 77 [qAV a b c (rowH l), .i .i64 i, .ag x.cells] [] (qAV a b c (rowH (l.set i x))) [] :=
  acalls_vc (vWith_eq a b c l i x _) (by kernel_rfl) (by kernel_rfl) noK_runs (by
    simp only [vWith, Int.toNat_natCast]
    refine ⟨by rw [rowH_len]; omega, by rw [rowH_len]; omega, rowH_all l, by omega, by rw [rowH_len]; omega, _, rowH_get hi, Nat.le_refl 8, ?_, by trivial⟩
    rw [rowH_set]
    rfl)
/-! ### Check -/
theorem ck12_loop (a b c : Int) (l : List Held) (i : Nat) (x : Held) (hi : i < l.length) (h32 : l.length ≤ 32) (rest : Bool)
    (hrest : Runs Try.prog 17 0 (hd Try.f17 4) (iCk4 a b c l (i+1)) (RetR 0 [] (.b rest) [])) :
    ∀ (k j : Nat), i - j = k → j ≤ i → Runs Try.prog 17 0 (hd Try.f17 12) (iCk12 a b c l i j x) (RetR 0 [] (.b (((l.take i).drop j).all (fun y => !meetsB y x && decide (compareI y x < 0)) && rest)) []) := by
  have hw : ∀ j : Nat, j < 1000 → IntKind.i64.wrap ((j : Int) + 1) = ((j + 1 : Nat) : Int) := fun j hj => by rw [wrap_id (by omega) (by omega)]; simp
  intro k
  induction k with
  | zero =>
    intro j hk hj
    have hj' : j = i := by omega
    subst hj'
    refine runs_vc (vCk12_eq a b c l j j x (fun id s => id = 4 ∧ s = iCk4 a b c l (j+1)) _) (by kernel_rfl) (fun todo s h => Runs.cutA h ?_) ?_
    · rintro id s' ⟨rfl, rfl⟩
      simpa using hrest
    · simp only [vCk12, brP_iff, hw j (by omega)]
      exact ⟨fun h => by simp at h, fun _ => ⟨by trivial, by trivial, rfl⟩⟩
  | succ k ih =>
    intro j hk hj
    have hlt : j < i := by omega
    have hltl : j < l.length := by omega
    have htl : (l.take i).length = i := by simp; omega
    have hd : (l.take i).drop j = l[j] :: (l.take i).drop (j+1) := by
      rw [List.drop_eq_getElem_cons (by omega)]
      simp
    refine runs_vc (vCk12_eq a b c l i j x (fun id s => id = 12 ∧ s = iCk12 a b c l i (j+1) x ∧ (!meetsB l[j] x && decide (compareI l[j] x < 0)) = true) _) (by kernel_rfl) (fun todo s h => Runs.cutA h ?_) ?_
    · rintro id s' ⟨rfl, rfl, h0⟩
      have := ih (j+1) (by omega) (by omega)
      rw [hd, List.all_cons, h0, Bool.true_and]
      exact this
    · simp only [vCk12, brP_iff, hw j (by omega)]
      refine ⟨fun _ => ⟨by omega, by rw [rowH_len]; omega, exH hltl rfl ⟨meetsB l[j] x, meet_calls _ _, fun h1 => ⟨by trivial, ?_, by trivial⟩, fun h1 => ⟨by omega, by rw [rowH_len]; omega, exH hltl rfl ⟨_, less_calls _ _, by trivial, fun h2 => ⟨?_, by trivial⟩, fun h2 => ⟨by trivial, by trivial, rfl, ?_⟩⟩⟩⟩⟩, fun h => absurd h (by simp; omega)⟩
      · rw [hd, List.all_cons, h1]; rfl
      · rw [hd, List.all_cons]
        have : decide (compareI l[j] x < 0) = false := by simpa using h2
        rw [this, Bool.and_false, Bool.false_and, Bool.false_and]
      · have : decide (compareI l[j] x < 0) = true := by simpa using h2
        rw [h1, this]
        rfl
theorem ck4_loop (a b c : Int) (l : List Held) (h32 : l.length ≤ 32) : ∀ (k i : Nat), l.length - i = k → i ≤ l.length →
    Runs Try.prog 17 0 (hd Try.f17 4) (iCk4 a b c l i) (RetR 0 [] (.b (ck2 a c l (l.take i) (l.drop i))) []) := by
  intro k
  induction k with
  | zero =>
    intro i hk hi
    have hi' : i = l.length := by omega
    subst hi'
    refine runs_vc (vCk4_eq a b c l _ (fun _ _ => False) _) (by kernel_rfl) (fun todo s h => Runs.cutA h (fun _ _ h => h.elim)) ?_
    simp only [vCk4, brP_iff, rowH_len]
    exact ⟨fun h => by simp at h, fun _ => ⟨by simp [ck2], by trivial⟩⟩
  | succ k ih =>
    intro i hk hi
    have hlt : i < l.length := by omega
    have htk : l.take i ++ [l[i]] = l.take (i+1) := (List.take_succ_eq_append_getElem hlt).symm
    have hd : l.drop i = l[i] :: l.drop (i+1) := List.drop_eq_getElem_cons hlt
    have hnext := ih (i+1) (by omega) (by omega)
    have hin := ck12_loop a b c l i l[i] hlt h32 _ hnext _ 0 rfl (Nat.zero_le _)
    rw [List.drop_zero] at hin
    have hfold : ck2 a c l (l.take i) (l.drop i) = (entryB c l[i] && decide ((cntO l[i].by' l : Int) ≤ a) && ((l.take i).all (fun y => !meetsB y l[i] && decide (compareI y l[i] < 0)) && ck2 a c l (l.take (i+1)) (l.drop (i+1)))) := by
      rw [hd, ck2, htk, Bool.and_assoc]
    refine runs_vc (vCk4_eq a b c l i (fun id s => id = 12 ∧ s = iCk12 a b c l i 0 l[i] ∧ (entryB c l[i] && decide ((cntO l[i].by' l : Int) ≤ a)) = true) _) (by kernel_rfl) (fun todo s h => Runs.cutA h ?_) ?_
    · rintro id s' ⟨rfl, rfl, h0⟩
      rw [hfold, h0, Bool.true_and]
      exact hin
    · have no : entryB c l[i] = false ∨ decide ((cntO l[i].by' l : Int) ≤ a) = false → AV.b false = AV.b (ck2 a c l (l.take i) (l.drop i)) := by
        intro h
        rw [hfold]
        rcases h with h | h <;> simp [h]
      generalize hx : l[i] = x at *
      have hwho : whoB x = usbB x.p x.t x.by' x.e := rfl
      have hent : entryB c x = (usbB x.p x.t x.by' x.e && decide (0 ≤ x.f) && decide (x.f < x.u) && decide (x.u ≤ 1073741824) && decide (0 ≤ x.r) && decide (x.r ≤ 1) && decide (0 ≤ x.c) && decide (x.c ≤ 1073741824) && decide (IntKind.i64.wrap (x.u - x.f) ≤ IntKind.i64.wrap (c * IntKind.i64.wrap (1 + x.r)))) := by
        rw [← hwho]; rfl
      simp only [vCk4, brP_iff]
      refine ⟨fun _ => ⟨by omega, by rw [rowH_len]; omega, ?_⟩, fun h => absurd h (by simp [rowH_len]; omega)⟩
      refine ⟨x.p, x.t, x.e, x.by', x.f, x.u, x.r, x.c, by rw [Int.toNat_natCast, rowH_get hlt, hx]; rfl, rfl, usbB x.p x.t x.by' x.e, usb_calls x.p x.t x.by' x.e, fun h1 => ⟨no (.inl ?_), by trivial⟩, fun h1 => ⟨fun h2 => ⟨no (.inl ?_), by trivial⟩, fun h2 => ⟨fun h3 => ⟨no (.inl ?_), by trivial⟩, fun h3 => ⟨fun h4 => ⟨no (.inl ?_), by trivial⟩, fun h4 => ⟨fun h5 => ⟨no (.inl ?_), by trivial⟩, fun h5 => ⟨fun h6 => ⟨no (.inl ?_), by trivial⟩, fun h6 => ⟨fun h7 => ⟨no (.inl ?_), by trivial⟩, fun h7 => ⟨fun h8 => ⟨by trivial, no (.inl ?_), by trivial⟩, fun h8 => ⟨fun h9 => ⟨by trivial, no (.inl ?_), by trivial⟩, fun h9 => ?_⟩⟩⟩⟩⟩⟩⟩⟩⟩
      all_goals try (rw [hent]; generalize usbB x.p x.t x.by' x.e = ub at *; grind)
      refine ⟨(cntO x.by' l : Int), ow_calls a b c l x.by' (by omega), by trivial, fun h10 => ⟨no (.inr ?_), by trivial⟩, fun h10 => ⟨by trivial, by trivial, rfl, ?_⟩⟩
      · simp at h10 ⊢; omega
      · have e1 : decide ((cntO x.by' l : Int) ≤ a) = true := by simp at h10 ⊢; omega
        rw [e1, Bool.and_true, hent]
        generalize usbB x.p x.t x.by' x.e = ub at *
        grind
theorem check2_calls (a b c : Int) (l : List Held) : ACalls Try.prog 17 [qAV a b c (rowH l)] [] (.b (checkB a b c l)) [] := by
  rw [← ck2_check]
  refine acalls_vc (vCk0_eq a b c l (fun id s => id = 4 ∧ s = iCk4 a b c l 0 ∧ (sizesB a b c && decide ((l.length : Int) ≤ b)) = true ∧ l.length ≤ 32) _) (by kernel_rfl) (by kernel_rfl) (fun todo s h => Runs.cutA h (fun id s' e => ?_)) ?_
  · obtain ⟨rfl, rfl, h0, h32⟩ := e
    rw [h0, Bool.true_and]
    exact ck4_loop a b c l h32 _ 0 rfl (Nat.zero_le _)
  · simp only [vCk0, brP_iff, rowH_len]
    refine ⟨sizesB a b c, numbers_calls a b c, fun h => ⟨?_, by trivial⟩, fun h => ⟨fun h2 => ⟨?_, by trivial⟩, fun h2 => ⟨by trivial, by trivial, rfl, ?_, ?_⟩⟩⟩
    · have : sizesB a b c = false := by simpa using h
      simp [this]
    · have : decide ((l.length : Int) ≤ b) = false := by simp at h2 ⊢; omega
      rw [this, Bool.and_false, Bool.false_and]
    · have e1 : sizesB a b c = true := by simpa using h
      have e2 : decide ((l.length : Int) ≤ b) = true := by simp at h2 ⊢; omega
      rw [e1, e2]; rfl
    · have e1 : sizesB a b c = true := by simpa using h
      simp only [sizesB, Bool.and_eq_true, decide_eq_true_eq] at e1
      simp at h2
      omega
end Go.AM.Q
set_option maxRecDepth 100000
set_option linter.unusedVariables false
namespace Go.AM.Q
open Go.Proofs
--BEGIN
def iRe (a b c : Int) (l : List Held) (x : Held) (i k : Nat) : St := { t := [(5, .ptr 0 0), (10, .ptr 1 0), (12, .i .i64 i), (13, .ptr 2 0), (14, .i .i64 k)], σ := [(0, .cells [.i .i64 a, .i .i64 b, .i .i64 c, .sl (rowH l)]), (1, .cells [.i .i64 0, .i .i64 0, .i .i64 0, .sl []]), (2, .cells x.cells)], n := 3, m := 82 }
def vReL (a b c : Int) (l : List Held) (x : Held) (i k : Nat) (I : Nat → St → Prop) (v : AV) : Prop :=
 (brP (decide ((((k : Nat) : Int) : Int) < (((List.length (Q.rowH l)) : Nat) : Int))) (brP (!(decide (((k : Nat) : Int) = (((i : Nat) : Int) : Int)))) ((((0 : Int) : Int) ≤ ((k : Nat) : Int)) ∧
 (((((k : Nat) : Int) : Int) < (((List.length (Q.rowH l)) : Nat) : Int)) ∧
 (∃ x1 : ByteArray, (∃ x2 : ByteArray, (∃ n : Int, (∃ x3 : ByteArray, (∃ n1 : Int, (∃ n2 : Int, (∃ n3 : Int, (∃ n4 : Int, ((((Q.rowH l))[(Int.toNat ((k : Nat) : Int))]? = ((Option.some [(AV.s x1), (AV.s x2), (AV.i IntKind.i64 n), (AV.s x3), (AV.i IntKind.i64 n1), (AV.i IntKind.i64 n2), (AV.i IntKind.i64 n3), (AV.i IntKind.i64 n4)]) : (Option (List AV)))) ∧
 (((List.length (([(AV.s x1)] ++ ([(AV.s x2)] ++ ([] : List AV) : (List AV)) : (List AV)) ++ ([(AV.i IntKind.i64 n)] ++ ([(AV.s x3)] ++ ([(AV.i IntKind.i64 n1)] ++ ([(AV.i IntKind.i64 n2)] ++ ([(AV.i IntKind.i64 n3)] ++ ([(AV.i IntKind.i64 n4)] ++ ([] : List AV) : (List AV)) : (List AV)) : (List AV)) : (List AV)) : (List AV)) : (List AV)) : (List AV))) = (8 : Nat)) ∧
 (∃ x4 : Bool, ((ACalls Try.prog 38 [(AV.ag [(AV.s x1), (AV.s x2), (AV.i IntKind.i64 n), (AV.s x3), (AV.i IntKind.i64 n1), (AV.i IntKind.i64 n2), (AV.i IntKind.i64 n3), (AV.i IntKind.i64 n4)]), (AV.ag [(AV.s (x).1), (AV.s (x).2), (AV.i IntKind.i64 (x).3), (AV.s (x).4), (AV.i IntKind.i64 (x).5), (AV.i IntKind.i64 (x).6), (AV.i IntKind.i64 (x).7), (AV.i IntKind.i64 (x).8)])] ([] : List (Prod Nat Blk)) (AV.b x4) ([] : List (Prod Nat Blk))) ∧
 ((Bool.true = (Bool.true : Bool)) ∧
 (brP x4 (((AV.tup [(AV.ag [(AV.i IntKind.i64 (0 : Int)), (AV.i IntKind.i64 (0 : Int)), (AV.i IntKind.i64 (0 : Int)), (AV.sl ([] : List (List AV)))]), (AV.i IntKind.i64 (19 : Int))]) = (v : AV)) ∧
 (([] : List (Prod Nat Blk)) = (([] : List (Prod Nat Blk)) : Heap))) ((AtL (hd Try.f57 15) (hd Try.f57 15)) ∧
 (I 15 { t := [(5, (AV.ptr 0 0)), (10, (AV.ptr 1 0)), (12, (AV.i IntKind.i64 ((i : Nat) : Int))), (13, (AV.ptr 2 0)), (14, (AV.i IntKind.i64 (IntKind.wrap IntKind.i64 (((k : Nat) : Int) + (1 : Int) : Int))))], σ := [(0, (Blk.cells [(AV.i IntKind.i64 a), (AV.i IntKind.i64 b), (AV.i IntKind.i64 c), (AV.sl (Q.rowH l))])), (1, (Blk.cells [(AV.i IntKind.i64 (0 : Int)), (AV.i IntKind.i64 (0 : Int)), (AV.i IntKind.i64 (0 : Int)), (AV.sl ([] : List (List AV)))])), (2, (Blk.cells [(AV.s (x).1), (AV.s (x).2), (AV.i IntKind.i64 (x).3), (AV.s (x).4), (AV.i IntKind.i64 (x).5), (AV.i IntKind.i64 (x).6), (AV.i IntKind.i64 (x).7), (AV.i IntKind.i64 (x).8)]))], n := 3, m := 82 : St})))))))))))))))))) ((Bool.true = (Bool.true : Bool)) ∧
 ((AtL (hd Try.f57 15) (hd Try.f57 15)) ∧
 (I 15 { t := [(5, (AV.ptr 0 0)), (10, (AV.ptr 1 0)), (12, (AV.i IntKind.i64 ((i : Nat) : Int))), (13, (AV.ptr 2 0)), (14, (AV.i IntKind.i64 (IntKind.wrap IntKind.i64 (((k : Nat) : Int) + (1 : Int) : Int))))], σ := [(0, (Blk.cells [(AV.i IntKind.i64 a), (AV.i IntKind.i64 b), (AV.i IntKind.i64 c), (AV.sl (Q.rowH l))])), (1, (Blk.cells [(AV.i IntKind.i64 (0 : Int)), (AV.i IntKind.i64 (0 : Int)), (AV.i IntKind.i64 (0 : Int)), (AV.sl ([] : List (List AV)))])), (2, (Blk.cells [(AV.s (x).1), (AV.s (x).2), (AV.i IntKind.i64 (x).3), (AV.s (x).4), (AV.i IntKind.i64 (x).5), (AV.i IntKind.i64 (x).6), (AV.i IntKind.i64 (x).7), (AV.i IntKind.i64 (x).8)]))], n := 3, m := 82 : St})))) (∃ n : Int, (∃ n1 : Int, (∃ n2 : Int, (∃ xs : (List (List AV)), ((ACalls Try.prog 77 [(AV.ag [(AV.i IntKind.i64 a), (AV.i IntKind.i64 b), (AV.i IntKind.i64 c), (AV.sl (Q.rowH l))]), (AV.i IntKind.i64 ((i : Nat) : Int)), (AV.ag [(AV.s (x).1), (AV.s (x).2), (AV.i IntKind.i64 (x).3), (AV.s (x).4), (AV.i IntKind.i64 (x).5), (AV.i IntKind.i64 (x).6), (AV.i IntKind.i64 (x).7), (AV.i IntKind.i64 (x).8)])] ([] : List (Prod Nat Blk)) (AV.ag ([(AV.i IntKind.i64 n)] ++ ([(AV.i IntKind.i64 n1)] ++ ([(AV.i IntKind.i64 n2)] ++ ([(AV.sl xs)] ++ ([] : List AV) : (List AV)) : (List AV)) : (List AV)) : (List AV))) ([] : List (Prod Nat Blk))) ∧
 (((AV.tup [(AV.ag [(AV.i IntKind.i64 n), (AV.i IntKind.i64 n1), (AV.i IntKind.i64 n2), (AV.sl xs)]), (AV.i IntKind.i64 (0 : Int))]) = (v : AV)) ∧
 (([] : List (Prod Nat Blk)) = (([] : List (Prod Nat Blk)) : Heap)))))))))
theorem vReL_eq (a b c : Int) (l : List Held) (x : Held) (i k : Nat) (I : Nat → St → Prop) (v : AV) : vReL a b c l x i k I v = (evL Try.prog TQ Try.f57 [] (cutA 0 Try.f57 cRe I) 15 (iRe a b c l x i k) 0 [] v []) := by kernel_rfl

end Go.AM.Q
set_option maxRecDepth 100000
set_option linter.unusedVariables false
set_option linter.unusedSimpArgs false
namespace Go.AM.Q
open Go.Proofs
theorem load2_calls (a b c : Int) (l : List Held) (o : ByteArray) : ACalls Try.prog 21 [qAV a b c (rowH l), .s o] [] (.i .i64 (loadI a b c l o)) [] :=
  acalls_vc (vLoad2_eq a b c l o _) (by kernel_rfl) (by kernel_rfl) noK_runs (by
    simp only [vLoad2, brP_iff]
    refine ⟨checkB a b c l, check2_calls a b c l, fun h => ⟨?_, by trivial⟩, fun h => ?_⟩
    · have : checkB a b c l = false := by simpa using h
      simp [loadI, this]
    · have hc : checkB a b c l = true := by simpa using h
      have hl := ck_len hc
      refine ⟨_, ow_calls a b c l o (by omega), ?_, by trivial⟩
      simp [loadI, hc])
theorem active2_calls (a b c : Int) (l : List Held) (m : Mom) : ACalls Try.prog 61 [qAV a b c (rowH l), .ag [.s m.p, .s m.t], .i .i64 m.e, .i .i64 m.now] [] (activeR a b c l m) [] :=
  acalls_vc (vActive2_eq a b c l m _) (by kernel_rfl) (by kernel_rfl) noK_runs (by
    simp only [vActive2, brP_iff]
    refine ⟨checkB a b c l, check2_calls a b c l, fun h => ⟨?_, by trivial⟩, fun h => ?_⟩
    · have : checkB a b c l = false := by simpa using h
      simp [activeR, this, Held.none, Held.cells]
    · have hc : checkB a b c l = true := by simpa using h
      have hl := ck_len hc
      refine ⟨_, fi_calls a b c l m (by omega), fun h2 => ?_, fun h2 => ⟨?_, by trivial⟩⟩
      · rcases idxP_find (heldB m) l 0 (Int.le_refl 0) with ⟨h3, h4⟩ | ⟨x, i, h3, h4, h5, _⟩
        · rw [h4] at h2; simp at h2
        · have hi := (List.getElem?_eq_some_iff.1 h5).1
          have hx := (List.getElem?_eq_some_iff.1 h5).2
          rw [h4]
          refine ⟨by omega, by rw [rowH_len]; omega, ?_⟩
          rw [show (0 + (i : Int)).toNat = i by omega]
          refine exH hi rfl ⟨?_, by trivial⟩
          simp [activeR, hc, h3, hx, Held.cells]
      · rcases idxP_find (heldB m) l 0 (Int.le_refl 0) with ⟨h3, h4⟩ | ⟨x, i, h3, h4, h5⟩
        · simp [activeR, hc, h3, Held.none, Held.cells]
        · rw [h4] at h2; simp at h2)
theorem release2_calls (a b c : Int) (l : List Held) (m : Mom) : ACalls Try.prog 58 [qAV a b c (rowH l), .ag [.s m.p, .s m.t], .i .i64 m.e, .i .i64 m.now] [] (releaseR a b c l m) [] :=
  acalls_vc (vRl_eq a b c l m _) (by kernel_rfl) (by kernel_rfl) noK_runs (by
    simp only [vRl, brP_iff, releaseR]
    refine ⟨checkB a b c l, check2_calls a b c l, fun h => ⟨?_, by trivial⟩, fun h => ?_⟩
    · have : checkB a b c l = false := by simpa using h
      simp only [chR, this, cond_false]
      rfl
    have hc : checkB a b c l = true := by simpa using h
    have hl := ck_len hc
    refine ⟨_, fi_calls a b c l m (by omega), fun h2 => ⟨?_, by trivial⟩, fun h2 => ?_⟩
    · rcases idxP_find (heldB m) l 0 (Int.le_refl 0) with ⟨h3, h4⟩ | ⟨x, i, h3, h4, h5⟩
      · simp only [chR, hc, h3, cond_true]
        rfl
      · rw [h4] at h2; simp at h2; omega
    rcases idxP_find (heldB m) l 0 (Int.le_refl 0) with ⟨h3, h4⟩ | ⟨x, i, h3, h4, h5, h6⟩
    · rw [h4] at h2; simp at h2
    obtain ⟨hi, hx⟩ := List.getElem?_eq_some_iff.1 h5
    have h4' : idxP (heldB m) 0 l = (i : Int) := by omega
    rw [h4']
    have hw : IntKind.i64.wrap ((i : Int) + 1) = ((i + 1 : Nat) : Int) := by rw [wrap_id (by omega) (by omega)]; simp
    simp only [Int.toNat_natCast, hw, rowH_len, List.drop_zero, List.length_take, List.length_drop]
    have hm : min i l.length ≤ 32 := by omega
    refine ⟨by omega, by omega, rowH_all l, by omega, by omega, fun y hy => rowH_all l y (List.mem_of_mem_take hy), by omega, by omega, rowH_all l, by omega, by omega, fun y hy => rowH_all l y (List.mem_of_mem_take (List.mem_of_mem_drop hy)), by trivial, ?_, by trivial⟩
    rw [List.take_of_length_le (Nat.le_of_eq (rowH_len l))]
    simp [chR, hc, h3, ← h6, okQ, qAV, rowH])
theorem charge2_calls (a b c : Int) (l : List Held) (m : Mom) : ACalls Try.prog 59 [qAV a b c (rowH l), .ag [.s m.p, .s m.t], .i .i64 m.e, .i .i64 m.now] [] (chargeR a b c l m) [] :=
  acalls_vc (vCh_eq a b c l m _) (by kernel_rfl) (by kernel_rfl) noK_runs (by
    simp only [vCh, brP_iff, chargeR]
    refine ⟨checkB a b c l, check2_calls a b c l, fun h => ⟨?_, by trivial⟩, fun h => ?_⟩
    · have : checkB a b c l = false := by simpa using h
      simp only [chR, this, cond_false]
      rfl
    have hc : checkB a b c l = true := by simpa using h
    have hl := ck_len hc
    refine ⟨_, fi_calls a b c l m (by omega), fun h2 => ⟨?_, by trivial⟩, fun h2 => ?_⟩
    · rcases idxP_find (heldB m) l 0 (Int.le_refl 0) with ⟨h3, h4⟩ | ⟨x, i, h3, h4, h5⟩
      · simp only [chR, hc, h3, cond_true]
        rfl
      · rw [h4] at h2; simp at h2; omega
    rcases idxP_find (heldB m) l 0 (Int.le_refl 0) with ⟨h3, h4⟩ | ⟨x, i, h3, h4, h5, h6⟩
    · rw [h4] at h2; simp at h2
    obtain ⟨hi, hx⟩ := List.getElem?_eq_some_iff.1 h5
    have h4' : idxP (heldB m) 0 l = (i : Int) := by omega
    rw [h4']
    refine ⟨by omega, by rw [rowH_len]; omega, exH (k := i) hi rfl ⟨fun h7 => ⟨?_, by trivial⟩, fun h7 => ⟨a, b, c, rowH (l.set i (chgH l[i])), ?_, ?_, by trivial⟩⟩⟩
    · have : chgE x = 2 := by rw [← hx]; simp only [chgE, h7, cond_true]
      simp [chR, hc, h3, this, errQ, qAV, rowH]
    · have : chgH l[i] = { l[i] with c := IntKind.i64.wrap (l[i].c + 1) } := by simp only [chgH, h7, cond_false]
      rw [this]
      exact with_calls a b c l i { l[i] with c := IntKind.i64.wrap (l[i].c + 1) } hi (by omega)
    · have : chgE x = 0 := by rw [← hx]; simp only [chgE, h7, cond_false]
      simp [chR, hc, h3, this, hx, ← h6, okQ, qAV])
/-! ### Expire -/
theorem ex2_loop (a b c now : Int) (l : List Held) (hl : l.length ≤ 32) : ∀ (k j : Nat), l.length - j = k → j ≤ l.length →
    Runs Try.prog 60 0 (hd Try.f60 5) (iE2 a b c now l ((l.take j).filter fun h => !decide (h.u ≤ now)) ((l.take j).filter fun h => decide (h.u ≤ now)) j)
      (RetR 0 [] (.tup [qAV a b c (rowH (l.filter fun h => !decide (h.u ≤ now))), .sl (rowH (l.filter fun h => decide (h.u ≤ now))), .i .i64 0]) []) := by
  intro k
  induction k with
  | zero =>
    intro j hk hj
    have hj' : j = l.length := by omega
    subst hj'
    rw [List.take_length]
    refine runs_vc (vE2L_eq a b c now l _ _ _ (fun _ _ => False) _) (by kernel_rfl) (fun todo s h => Runs.cutA h (fun _ _ h => h.elim)) ?_
    simp only [vE2L, brP_iff, rowH_len]
    exact ⟨fun h => by simp at h, fun _ => ⟨rfl, by trivial⟩⟩
  | succ k ih =>
    intro j hk hj
    have hlt : j < l.length := by omega
    have htk : l.take (j+1) = l.take j ++ [l[j]] := List.take_succ_eq_append_getElem hlt
    have f1 := List.length_filter_le (fun h : Held => !decide (h.u ≤ now)) (l.take j)
    have f2 := List.length_filter_le (fun h : Held => decide (h.u ≤ now)) (l.take j)
    have hcl : (l.take j).length ≤ 32 := by simp; omega
    refine runs_vc (vE2L_eq a b c now l _ _ j (fun id s => id = 5 ∧ s = iE2 a b c now l ((l.take (j+1)).filter fun h => !decide (h.u ≤ now)) ((l.take (j+1)).filter fun h => decide (h.u ≤ now)) (j+1)) _) (by kernel_rfl) (fun todo s h => Runs.cutA h ?_) ?_
    · rintro id s' ⟨rfl, rfl⟩
      exact ih (j+1) (by omega) (by omega)
    · have hw : IntKind.i64.wrap ((j : Int) + 1) = ((j + 1 : Nat) : Int) := by rw [wrap_id (by omega) (by omega)]; simp
      have h1 : ∀ y : List AV, List.Mem y [l[j].cells] → y.length = 8 := by
        intro y hy
        cases hy with
        | head => rfl
        | tail _ h => cases h
      simp only [vE2L, brP_iff, hw]
      refine ⟨fun _ => ⟨by omega, by rw [rowH_len]; omega, exH hlt rfl ⟨fun h => ⟨by omega, by rw [rowH_len]; omega, exH hlt rfl ⟨by rw [rowH_len]; omega, by rw [rowH_len]; omega, h1, by trivial, by trivial, ?_⟩⟩, fun h => ⟨by omega, by rw [rowH_len]; omega, exH hlt rfl ⟨by rw [rowH_len]; omega, by rw [rowH_len]; omega, h1, by trivial, by trivial, ?_⟩⟩⟩⟩, fun h => absurd h (by simp [rowH_len]; omega)⟩
      · rw [htk]
        simp only [List.filter_append, List.filter_cons, List.filter_nil, h, Bool.not_true, if_true, Bool.false_eq_true, if_false, List.append_nil]
        unfold iE2
        rw [← rowH_snoc]
        rfl
      · rw [htk]
        simp only [List.filter_append, List.filter_cons, List.filter_nil, h, Bool.not_false, if_true, Bool.false_eq_true, if_false, List.append_nil]
        unfold iE2
        rw [← rowH_snoc]
        rfl
theorem expire2_calls (a b c : Int) (l : List Held) (now : Int) : ACalls Try.prog 60 [qAV a b c (rowH l), .i .i64 now] [] (expR a b c l now) [] :=
  acalls_vc (vE2_eq a b c now l (fun id s => id = 5 ∧ s = iE2 a b c now l [] [] 0 ∧ checkB a b c l = true) _) (by kernel_rfl) (by kernel_rfl) (fun todo s h => Runs.cutA h (fun id s' e => by
    obtain ⟨rfl, rfl, e⟩ := e
    have := ex2_loop a b c now l (ck_len e) _ 0 rfl (Nat.zero_le _)
    rw [show expR a b c l now = .tup [qAV a b c (rowH (l.filter fun h => !decide (h.u ≤ now))), .sl (rowH (l.filter fun h => decide (h.u ≤ now))), .i .i64 0] by unfold expR; rw [e]; rfl]
    exact this)) (by
    simp only [vE2, brP_iff]
    refine ⟨checkB a b c l, check2_calls a b c l, fun h => ⟨?_, by trivial⟩, fun h => ⟨by trivial, by trivial, rfl, by simpa using h⟩⟩
    have : checkB a b c l = false := by simpa using h
    simp [expR, this, qAV])
end Go.AM.Q
set_option maxRecDepth 100000
set_option linter.unusedVariables false
set_option linter.unusedSimpArgs false
namespace Go.AM.Q
open Go.Proofs
theorem heldEq_iff (h k : Held) : heldEq h k = true ↔ h = k := by
  obtain ⟨a1, a2, a3, a4, a5, a6, a7, a8⟩ := h
  obtain ⟨b1, b2, b3, b4, b5, b6, b7, b8⟩ := k
  simp only [heldEq, Bool.and_eq_true, strEq_iff, decide_eq_true_eq, Held.mk.injEq, and_assoc]
/-! ### Renew -/
/-- Does an entry at a place from k on, other than i, meet x? -/
def anyX (x : Held) (i : Nat) : Nat → List Held → Bool
  | _, [] => false
  | k, y :: r => (!decide (k = i) && meetsB y x) || anyX x i (k + 1) r
theorem anyX_eq (x w : Held) (i : Nat) (l : List Held) (hw : ∀ (k : Nat) (h : k < l.length), l[k] = w ↔ k = i) : ∀ (rest : List Held) (k : Nat), l.drop k = rest → anyX x i k rest = rest.any (renB w x)
  | [], k, _ => rfl
  | y :: r, k, h => by
    have hk : k < l.length := by
      rcases Nat.lt_or_ge k l.length with h1 | h1
      · exact h1
      · rw [List.drop_of_length_le h1] at h; cases h
    rw [List.drop_eq_getElem_cons hk] at h
    obtain ⟨h1, h2⟩ := List.cons.inj h
    have e : heldEq y w = decide (k = i) := by
      rw [Bool.eq_iff_iff, heldEq_iff, ← h1, hw k hk, decide_eq_true_eq]
    simp only [anyX, List.any_cons, renB, e, anyX_eq x w i l hw r (k + 1) h2, meetsB_comm x y]
theorem rel_inj {l : List Held} (h : l.Pairwise Rel) (i : Nat) (hi : i < l.length) : ∀ (k : Nat) (h : k < l.length), l[k] = l[i] ↔ k = i := by
  intro k hk
  rw [List.pairwise_iff_getElem] at h
  constructor
  · intro e
    rcases Nat.lt_trichotomy k i with h1 | h1 | h1
    · have := (h k i hk hi h1).2
      rw [e] at this
      exact absurd this (Lt.irr _)
    · exact h1
    · have := (h i k hi hk h1).2
      rw [e] at this
      exact absurd this (Lt.irr _)
  · rintro rfl
    rfl
def reX (a b c : Int) (l : List Held) (x : Held) (i k : Nat) : AV := bif anyX x i k (l.drop k) then errQ 19 else okQ a b c (l.set i x)
theorem re_loop (a b c : Int) (l : List Held) (x : Held) (i : Nat) (hi : i < l.length) (hl : l.length ≤ 32) : ∀ (n k : Nat), l.length - k = n → k ≤ l.length →
    Runs Try.prog 57 0 (hd Try.f57 15) (iRe a b c l x i k) (RetR 0 [] (reX a b c l x i k) []) := by
  intro n
  induction n with
  | zero =>
    intro k hk hj
    have hk' : k = l.length := by omega
    subst hk'
    refine runs_vc (vReL_eq a b c l x i _ (fun _ _ => False) _) (by kernel_rfl) (fun todo s h => Runs.cutA h (fun _ _ h => h.elim)) ?_
    simp only [vReL, brP_iff, rowH_len]
    refine ⟨fun h => by simp at h, fun _ => ⟨a, b, c, rowH (l.set i x), with_calls a b c l i x hi (by omega), ?_, by trivial⟩⟩
    simp [reX, anyX, okQ, qAV]
  | succ n ih =>
    intro k hk hj
    have hlt : k < l.length := by omega
    have hd : l.drop k = l[k] :: l.drop (k + 1) := List.drop_eq_getElem_cons hlt
    have hw : IntKind.i64.wrap ((k : Int) + 1) = ((k + 1 : Nat) : Int) := by rw [wrap_id (by omega) (by omega)]; simp
    refine runs_vc (vReL_eq a b c l x i k (fun id s => id = 15 ∧ s = iRe a b c l x i (k + 1) ∧ (!decide (k = i) && meetsB l[k] x) = false) _) (by kernel_rfl) (fun todo s h => Runs.cutA h ?_) ?_
    · rintro id s' ⟨rfl, rfl, h0⟩
      have := ih (k + 1) (by omega) (by omega)
      have e : reX a b c l x i k = reX a b c l x i (k + 1) := by simp only [reX, hd, anyX, h0, Bool.false_or]
      rw [e]
      exact this
    · simp only [vReL, brP_iff, hw]
      refine ⟨fun _ => ⟨fun h1 => ⟨by omega, by rw [rowH_len]; omega, exH hlt rfl ⟨meetsB l[k] x, meet_calls _ _, by trivial, fun h2 => ⟨?_, by trivial⟩, fun h2 => ⟨by trivial, by trivial, rfl, ?_⟩⟩⟩, fun h1 => ⟨by trivial, by trivial, by trivial, rfl, ?_⟩⟩, fun h => absurd h (by simp [rowH_len]; omega)⟩
      · have h3 : decide (k = i) = false := by
          simp at h1 ⊢; omega
        simp only [reX, hd, anyX, h2, h3, Bool.not_false, Bool.and_self, Bool.true_or, cond_true]
        rfl
      · simp [h2]
      · have h3 : decide (k = i) = true := by
          simp at h1 ⊢; omega
        simp [h3]
theorem renew2_calls (a b c : Int) (l : List Held) (m : Mom) (u : Int) : ACalls Try.prog 57 [qAV a b c (rowH l), .ag [.s m.p, .s m.t], .i .i64 m.e, .i .i64 m.now, .i .i64 u] [] (renewR a b c l m u) [] :=
  acalls_vc (vRe_eq a b c l m u (fun id s => id = 15 ∧ ∃ (i : Nat) (h : i < l.length), s = iRe a b c l (renH l[i] u) i 0 ∧ l.length ≤ 32 ∧ reX a b c l (renH l[i] u) i 0 = renewR a b c l m u) _) (by kernel_rfl) (by kernel_rfl) (fun todo s h => Runs.cutA h (fun id s' e => by
    obtain ⟨rfl, i, hi, rfl, h32, e⟩ := e
    rw [← e]
    exact re_loop a b c l _ i hi h32 _ 0 rfl (Nat.zero_le _))) (by
    simp only [vRe, brP_iff]
    refine ⟨checkB a b c l, check2_calls a b c l, fun h => ⟨?_, by trivial⟩, fun h => ?_⟩
    · have : checkB a b c l = false := by simpa using h
      simp only [renewR, chR, this, cond_false]
      rfl
    have hc : checkB a b c l = true := by simpa using h
    have hl := ck_len hc
    refine ⟨_, fi_calls a b c l m (by omega), fun h2 => ⟨?_, by trivial⟩, fun h2 => ?_⟩
    · rcases idxP_find (heldB m) l 0 (Int.le_refl 0) with ⟨h3, h4⟩ | ⟨x, i, h3, h4, h5⟩
      · simp only [renewR, chR, hc, h3, cond_true]
        rfl
      · rw [h4] at h2; simp at h2; omega
    rcases idxP_find (heldB m) l 0 (Int.le_refl 0) with ⟨h3, h4⟩ | ⟨x, i, h3, h4, h5, h6⟩
    · rw [h4] at h2; simp at h2
    obtain ⟨hi, hx⟩ := List.getElem?_eq_some_iff.1 h5
    have h4' : idxP (heldB m) 0 l = (i : Int) := by omega
    rw [h4']
    have er : ∀ n : Int, n ≠ 0 → renE c l l[i] u m.now = n → errQ n = renewR a b c l m u := by
      intro n h0 h1
      rw [hx] at h1
      simp [renewR, chR, hc, h3, h1, h0]
    refine ⟨by omega, by rw [rowH_len]; omega, exH (k := i) hi rfl ⟨fun h7 => ⟨er 45 (by omega) ?_, by trivial⟩, fun h7 => ⟨fun h8 => ⟨er 3 (by omega) ?_, by trivial⟩, fun h8 => ⟨fun h9 => ⟨er 3 (by omega) ?_, by trivial⟩, fun h9 => ⟨fun h10 => ⟨er 44 (by omega) ?_, by trivial⟩, fun h10 => ⟨by trivial, by trivial, i, hi, rfl, hl, ?_⟩⟩⟩⟩⟩⟩
    · simp only [renE, h7, cond_true]
    · simp only [renE, h7, h8, Bool.true_or, cond_true, cond_false]
    · simp only [renE, h7, h8, h9, Bool.or_true, cond_true, cond_false]
    · simp only [renE, h7, h8, h9, h10, Bool.or_false, cond_true, cond_false]
    · have hr := ((check_iff.1 hc).2.2).rel
      have ha := anyX_eq (renH l[i] u) l[i] i l (rel_inj hr i hi) l 0 rfl
      have he : renE c l l[i] u m.now = bif l.any (renB l[i] (renH l[i] u)) then 19 else 0 := by
        simp only [renE, h7, h8, h9, h10, Bool.or_false, cond_true, cond_false]
      simp only [reX, List.drop_zero, ha]
      cases hb : l.any (renB l[i] (renH l[i] u)) with
      | true => rw [hb] at he; exact er 19 (by omega) he
      | false =>
        rw [hb] at he
        rw [hx] at he
        simp [renewR, chR, hc, h3, ← h6, hx, he])
/-! ### Add -/
/-- x among the entries, ahead of the first that it comes before. -/
def ins (x : Held) : List Held → List Held
  | [] => [x]
  | y :: r => bif decide (compareI x y < 0) then x :: y :: r else y :: ins x r
def adX (a b c : Int) (l : List Held) (x : Held) (d : Bool) (out rest : List Held) : AV :=
  bif rest.any (fun y => meetsB y x) then errQ 19 else bif decide (b ≤ (l.length : Int)) then errQ 42 else bif decide (a ≤ (cntO x.by' l : Int)) then errQ 43 else okQ a b c (out ++ bif d then rest else ins x rest)
theorem ad_loop (a b c : Int) (l : List Held) (x : Held) (hl : l.length ≤ 32) : ∀ (n j : Nat) (out : List Held) (d : Bool), l.length - j = n → j ≤ l.length → out.length ≤ 2 * j →
    Runs Try.prog 56 0 (hd Try.f56 11) (iAd a b c l out x d j) (RetR 0 [] (adX a b c l x d out (l.drop j)) []) := by
  have h1x : ∀ z : Held, ∀ y : List AV, List.Mem y [z.cells] → y.length = 8 := by
    intro z y hy
    cases hy with
    | head => rfl
    | tail _ h => cases h
  intro n
  induction n with
  | zero =>
    intro j out d hk hj ho
    have hk' : j = l.length := by omega
    subst hk'
    refine runs_vc (vAdL_eq a b c l out x d _ (fun _ _ => False) _) (by kernel_rfl) (fun todo s h => Runs.cutA h (fun _ _ h => h.elim)) ?_
    simp only [vAdL, brP_iff, rowH_len, List.drop_length]
    refine ⟨fun h => by simp at h, fun _ => ⟨fun hd => ⟨by omega, by omega, h1x x, fun h1 => ⟨?_, by trivial⟩, fun h1 => ⟨_, ow_calls a b c l x.by' (by omega), by trivial, fun h2 => ⟨?_, by trivial⟩, fun h2 => ⟨?_, by trivial⟩⟩⟩, fun hd => ⟨fun h1 => ⟨?_, by trivial⟩, fun h1 => ⟨_, ow_calls a b c l x.by' (by omega), by trivial, fun h2 => ⟨?_, by trivial⟩, fun h2 => ⟨?_, by trivial⟩⟩⟩⟩⟩
    · simp only [adX, List.any_nil, h1, cond_true, cond_false]; rfl
    · simp only [adX, List.any_nil, h1, h2, cond_true, cond_false]; rfl
    · have hd' : d = false := by simpa using hd
      simp only [adX, List.any_nil, h1, h2, hd', cond_true, cond_false, ins, okQ, qAV, ← rowH_snoc]
      rfl
    · simp only [adX, List.any_nil, h1, cond_true, cond_false]; rfl
    · simp only [adX, List.any_nil, h1, h2, cond_true, cond_false]; rfl
    · have hd' : d = true := by simpa using hd
      simp only [adX, List.any_nil, h1, h2, hd', cond_true, cond_false, okQ, qAV, List.append_nil]
  | succ n ih =>
    intro j out d hk hj ho
    have hlt : j < l.length := by omega
    have hdr : l.drop j = l[j] :: l.drop (j + 1) := List.drop_eq_getElem_cons hlt
    have hw : IntKind.i64.wrap ((j : Int) + 1) = ((j + 1 : Nat) : Int) := by rw [wrap_id (by omega) (by omega)]; simp
    refine runs_vc (vAdL_eq a b c l out x d j (fun id s => id = 11 ∧ meetsB l[j] x = false ∧ ((d = false ∧ decide (compareI x l[j] < 0) = true ∧ s = iAd a b c l (out ++ [x] ++ [l[j]]) x true (j + 1)) ∨ (d = false ∧ decide (compareI x l[j] < 0) = false ∧ s = iAd a b c l (out ++ [l[j]]) x false (j + 1)) ∨ (d = true ∧ s = iAd a b c l (out ++ [l[j]]) x true (j + 1)))) _) (by kernel_rfl) (fun todo s h => Runs.cutA h ?_) ?_
    · rintro id s' ⟨rfl, h0, ⟨rfl, h1, rfl⟩ | ⟨rfl, h1, rfl⟩ | ⟨rfl, rfl⟩⟩
      · have e : adX a b c l x false out (l.drop j) = adX a b c l x true (out ++ [x] ++ [l[j]]) (l.drop (j + 1)) := by
          simp only [adX, hdr, List.any_cons, h0, Bool.false_or, ins, h1, cond_true, cond_false, List.append_assoc, List.singleton_append, List.cons_append, List.nil_append]
        rw [e]
        exact ih (j + 1) _ _ (by omega) (by omega) (by simp; omega)
      · have e : adX a b c l x false out (l.drop j) = adX a b c l x false (out ++ [l[j]]) (l.drop (j + 1)) := by
          simp only [adX, hdr, List.any_cons, h0, Bool.false_or, ins, h1, cond_true, cond_false, List.append_assoc, List.singleton_append, List.cons_append, List.nil_append]
        rw [e]
        exact ih (j + 1) _ _ (by omega) (by omega) (by simp; omega)
      · have e : adX a b c l x true out (l.drop j) = adX a b c l x true (out ++ [l[j]]) (l.drop (j + 1)) := by
          simp only [adX, hdr, List.any_cons, h0, Bool.false_or, ins, cond_true, cond_false, List.append_assoc, List.singleton_append, List.cons_append, List.nil_append]
        rw [e]
        exact ih (j + 1) _ _ (by omega) (by omega) (by simp; omega)
    · have ex : ∀ z : Held, rowH out ++ [z.cells] = rowH (out ++ [z]) := fun z => rowH_snoc out z
      have s1 : (rowH out).length ≤ 64 := by rw [rowH_len]; omega
      have s2 : ∀ z : List AV, (rowH out ++ [z]).length ≤ 65 := by intro z; simp only [List.length_append, List.length_singleton]; omega
      simp only [vAdL, brP_iff, hw]
      refine ⟨fun _ => ⟨by omega, by rw [rowH_len]; omega, exH hlt rfl ⟨meetsB l[j] x, meet_calls _ _, by trivial, fun h1 => ⟨?_, by trivial⟩, fun h1 => ⟨fun hd => ⟨by omega, by rw [rowH_len]; omega, exH hlt rfl ⟨_, less_calls x l[j], by trivial, fun h2 => ⟨by omega, by omega, h1x x, by omega, by rw [rowH_len]; omega, exH hlt rfl ⟨by have := s2 x.cells; simp only [Held.cells] at this; omega, by have := s2 x.cells; simp only [Held.cells] at this; omega, h1x l[j], by trivial, by trivial, h1, .inl ⟨by simpa using hd, h2, ?_⟩⟩⟩, fun h2 => ⟨by omega, by rw [rowH_len]; omega, exH hlt rfl ⟨by omega, by omega, h1x l[j], by trivial, by trivial, h1, .inr (.inl ⟨by simpa using hd, h2, ?_⟩)⟩⟩⟩⟩, fun hd => ⟨by trivial, by omega, by rw [rowH_len]; omega, exH hlt rfl ⟨by omega, by omega, h1x l[j], by trivial, by trivial, h1, .inr (.inr ⟨by simpa using hd, ?_⟩)⟩⟩⟩⟩⟩, fun h => absurd h (by simp [rowH_len]; omega)⟩
      · simp only [adX, hdr, List.any_cons, h1, Bool.true_or, cond_true]; rfl
      · unfold iAd
        rw [← rowH_snoc, ← rowH_snoc]
        rfl
      · have hd' : d = false := by simpa using hd
        unfold iAd
        rw [← rowH_snoc, hd']
        rfl
      · have hd' : d = true := by simpa using hd
        unfold iAd
        rw [← rowH_snoc, hd']
        rfl
/-- The place that is found by halving. -/
theorem bsF_spec (p : Nat → Bool) (N : Nat) (mono : ∀ h k, h < k → k < N → p k = true → p h = true) : ∀ (n i j : Nat), j - i ≤ n → i ≤ j → j ≤ N → (∀ k, k < i → p k = true) → (∀ k, j ≤ k → k < N → p k = false) → (∀ k, k < bsF p n i j → p k = true) ∧ (∀ k, bsF p n i j ≤ k → k < N → p k = false)
  | 0, i, j, h, hij, hj, h1, h2 => by
    have : i = j := by omega
    subst this
    exact ⟨h1, h2⟩
  | n + 1, i, j, h, hij, hj, h1, h2 => by
    unfold bsF
    split
    · rename_i hlt
      cases hp : p ((i + j) / 2) with
      | true =>
        refine bsF_spec p N mono n _ j (by omega) (by omega) hj (fun k hk => ?_) h2
        rcases Nat.lt_or_ge k ((i + j) / 2) with h3 | h3
        · exact mono k _ h3 (by omega) hp
        · have : k = (i + j) / 2 := by omega
          rw [this, hp]
      | false =>
        refine bsF_spec p N mono n i _ (by omega) (by omega) (by omega) h1 (fun k hk hkn => ?_)
        rcases Nat.lt_or_ge ((i + j) / 2) k with h3 | h3
        · cases hk2 : p k with
          | false => rfl
          | true => rw [mono _ k h3 hkn hk2] at hp; cases hp
        · have : k = (i + j) / 2 := by omega
          rw [this, hp]
    · have : i = j := by omega
      subst this
      exact ⟨h1, h2⟩
theorem ins_take (x : Held) : ∀ (l : List Held) (r : Nat), r ≤ l.length → (∀ (k : Nat) (h : k < l.length), k < r → ¬ compareI x l[k] < 0) → (∀ h : r < l.length, compareI x l[r] < 0) → ins x l = l.take r ++ x :: l.drop r
  | [], r, hr, _, _ => by
    have : r = 0 := by simpa using hr
    subst this
    rfl
  | y :: t, 0, hr, h1, h2 => by
    have := h2 (by simp)
    simp only [List.getElem_cons_zero] at this
    simp [ins, this]
  | y :: t, r + 1, hr, h1, h2 => by
    have h0 := h1 0 (by simp) (by omega)
    simp only [List.getElem_cons_zero] at h0
    have := ins_take x t r (by simpa using hr) (fun k hk hkr => by
      have := h1 (k + 1) (by simpa using hk) (by omega)
      simpa using this) (fun h => by
      have := h2 (by simpa using h)
      simpa using this)
    simp [ins, h0, this]
theorem addL_ins {l : List Held} {x : Held} (hx : x.f < x.u) (hp : l.Pairwise Rel) (he : ∀ y ∈ l, y.f < y.u) (hm : ∀ y ∈ l, meetsB y x = false) : addL l x = ins x l := by
  have hne : ∀ y ∈ l, compareI y x ≠ 0 := by
    intro y hy h0
    rw [cmp_eq0] at h0
    have h1 := hm y hy
    have h2 := he y hy
    rw [← Bool.not_eq_true, meetsB_iff] at h1
    exact h1 ⟨h0.1, h0.2.1, h0.2.2.1, by omega, by omega⟩
  have hlt : ∀ (k : Nat) (h : k < l.length), ltAt l x k = decide (compareI l[k] x < 0) := by
    intro k h
    simp [ltAt, h]
  rw [List.pairwise_iff_getElem] at hp
  have hs := bsF_spec (ltAt l x) l.length (fun h k hhk hk hpk => by
    rw [hlt k hk, decide_eq_true_eq, cmp_lt] at hpk
    rw [hlt h (by omega), decide_eq_true_eq, cmp_lt]
    exact (hp h k (by omega) hk hhk).2.trans hpk) l.length 0 l.length (by omega) (Nat.zero_le _) (Nat.le_refl _) (by omega) (by omega)
  have hb := bsF_le (ltAt l x) l.length 0 l.length (Nat.zero_le _)
  symm
  refine ins_take x l (bsI l x) hb.2 (fun k hk hkr => ?_) (fun h => ?_)
  · have := hs.1 k hkr
    rw [hlt k hk, decide_eq_true_eq, cmp_lt] at this
    rw [cmp_lt]
    exact this.asymm
  · have := hs.2 (bsI l x) (Nat.le_refl _) h
    rw [hlt _ h, decide_eq_false_iff_not, cmp_lt] at this
    rw [cmp_lt]
    rcases Lt.total x l[bsI l x] with h1 | h1 | h1
    · exact h1
    · exact absurd h1 this
    · exfalso
      refine hne l[bsI l x] (List.getElem_mem h) ?_
      rw [cmp_eq0] at h1 ⊢
      exact ⟨h1.1.symm, h1.2.1.symm, h1.2.2.1.symm, h1.2.2.2.symm⟩
theorem cnt_eq {a b c : Int} {l : List Held} (hc : checkB a b c l = true) (o : ByteArray) : decide (a ≤ (cntO o l : Int)) = decide (loadI a b c l o = a) := by
  obtain ⟨h1, h2, h3⟩ := check_iff.1 hc
  have e : loadI a b c l o = cntO o l := by simp [loadI, hc]
  have hle : (cntO o l : Int) ≤ a := by
    by_cases hex : ∃ y ∈ l, y.by' = o
    · obtain ⟨y, hy, rfl⟩ := hex
      exact h3.cnt y hy
    · have : cntO o l = 0 := by
        unfold cntO
        rw [List.length_eq_zero_iff, List.filter_eq_nil_iff]
        intro y hy hh
        rw [strEq_iff] at hh
        exact hex ⟨y, hy, hh⟩
      simp only [sizesB, Bool.and_eq_true, decide_eq_true_eq] at h1
      omega
  rw [e]
  congr 1
  rw [eq_iff_iff]
  omega
theorem ad2_eq {a b c : Int} {l : List Held} {x : Held} (hc : checkB a b c l = true) (hwho : whoB x = true) (h3 : (decide (x.f < 0) || decide (x.u ≤ x.f) || decide (1073741824 < x.u)) = false) (h4 : decide (c < IntKind.i64.wrap (x.u - x.f)) = false) : adX a b c l x false [] l = addR a b c l x := by
  obtain ⟨h1, h2, hg⟩ := check_iff.1 hc
  have e0 : addE a b c l x = bif l.any (meetsB x) then 19 else bif decide ((l.length : Int) = b) then 42 else bif decide (loadI a b c l x.by' = a) then 43 else 0 := by
    simp only [addE, hc, hwho, h3, h4, Bool.not_true, Bool.or_false, cond_false]
  have e1 : l.any (fun y => meetsB y x) = l.any (meetsB x) := by
    congr 1
    funext y
    exact meetsB_comm y x
  have e2 : decide (b ≤ (l.length : Int)) = decide ((l.length : Int) = b) := by
    congr 1
    rw [eq_iff_iff]
    omega
  have e3 := cnt_eq hc x.by'
  unfold adX addR
  rw [e0, e1, e2, e3]
  cases hm : l.any (meetsB x) with
  | true => simp
  | false =>
    cases hb : decide ((l.length : Int) = b) with
    | true => simp
    | false =>
      cases ha : decide (loadI a b c l x.by' = a) with
      | true => simp
      | false =>
        simp only [cond_false, decide_true, cond_true, List.nil_append]
        congr 1
        symm
        refine addL_ins ?_ hg.rel (fun y hy => entry_fu (hg.ent y hy)) (fun y hy => ?_)
        · simp only [Bool.or_eq_false_iff, decide_eq_false_iff_not] at h3
          omega
        · have := List.any_eq_false.1 hm y hy
          rw [meetsB_comm]
          simpa using this
theorem add2Q_calls (a b c : Int) (l : List Held) (p t : ByteArray) (e : Int) (o : ByteArray) (f u : Int) :
    ACalls Try.prog 56 [qAV a b c (rowH l), .ag [.s p, .s t], .i .i64 e, .s o, .i .i64 f, .i .i64 u] [] (addR a b c l ⟨p, t, e, o, f, u, 0, 0⟩) [] :=
  acalls_vc (vAd_eq a b c l p t e o f u (fun id s => id = 11 ∧ s = iAd a b c l [] ⟨p, t, e, o, f, u, 0, 0⟩ false 0 ∧ l.length ≤ 32 ∧ adX a b c l ⟨p, t, e, o, f, u, 0, 0⟩ false [] l = addR a b c l ⟨p, t, e, o, f, u, 0, 0⟩) _) (by kernel_rfl) (by kernel_rfl) (fun todo s h => Runs.cutA h (fun id s' e => by
    obtain ⟨rfl, rfl, h32, e⟩ := e
    rw [← e]
    exact ad_loop a b c l _ h32 _ 0 [] false rfl (Nat.zero_le _) (Nat.zero_le _))) (by
    have err : ∀ n : Int, n ≠ 0 → addE a b c l ⟨p, t, e, o, f, u, 0, 0⟩ = n → errQ n = addR a b c l ⟨p, t, e, o, f, u, 0, 0⟩ := by
      intro n h0 h1
      unfold addR
      rw [h1]
      simp [h0]
    have hwho : whoB ⟨p, t, e, o, f, u, 0, 0⟩ = usbB p t o e := rfl
    simp only [vAd, brP_iff]
    refine ⟨checkB a b c l, check2_calls a b c l, fun h => ⟨err 1 (by omega) ?_, by trivial⟩, fun h => ?_⟩
    · simp only [addE, h, Bool.true_or, cond_true]
    have hc : checkB a b c l = true := by simpa using h
    have hl := ck_len hc
    refine ⟨usbB p t o e, usb_calls p t o e, fun h2 => ⟨err 1 (by omega) ?_, by trivial⟩, fun h2 => ?_⟩
    · simp only [addE, hwho, h2, Bool.or_true, cond_true]
    refine ⟨fun h3 => ⟨err 3 (by omega) ?_, by trivial⟩, fun h3 => ⟨fun h4 => ⟨err 3 (by omega) ?_, by trivial⟩, fun h4 => ⟨fun h5 => ⟨err 3 (by omega) ?_, by trivial⟩, fun h5 => ⟨fun h6 => ⟨err 44 (by omega) ?_, by trivial⟩, fun h6 => ⟨by trivial, by trivial, rfl, hl, ad2_eq hc ?_ ?_ ?_⟩⟩⟩⟩⟩
    · simp only [addE, h, hwho, h2, h3, Bool.or_self, Bool.true_or, cond_true, cond_false]
    · simp only [addE, h, hwho, h2, h3, h4, Bool.or_self, Bool.true_or, Bool.or_true, cond_true, cond_false]
    · simp only [addE, h, hwho, h2, h3, h4, h5, Bool.or_self, Bool.true_or, Bool.or_true, cond_true, cond_false]
    · simp only [addE, h, hwho, h2, h3, h4, h5, h6, Bool.or_self, Bool.true_or, Bool.or_true, cond_true, cond_false]
    · rw [hwho]; simpa using h2
    · simp only [h3, h4, h5, Bool.or_self]
    · exact h6)
end Go.AM.Q
set_option maxRecDepth 100000
set_option linter.unusedVariables false
namespace Go.AM.Q
open Go.Proofs
--BEGIN
def vKnown (v : AV) : Prop :=
 (∃ n : Int, (∃ n1 : Int, (∃ n2 : Int, (∃ xs : (List (List AV)), (∃ n3 : Int, ((ACalls Try.prog 10 [(AV.i IntKind.i64 (1 : Int)), (AV.i IntKind.i64 (2 : Int)), (AV.i IntKind.i64 (10 : Int))] ([] : List (Prod Nat Blk)) (AV.tup [(AV.ag ([(AV.i IntKind.i64 n)] ++ ([(AV.i IntKind.i64 n1)] ++ ([(AV.i IntKind.i64 n2)] ++ ([(AV.sl xs)] ++ ([] : List AV) : (List AV)) : (List AV)) : (List AV)) : (List AV))), (AV.i IntKind.i64 n3)]) ([] : List (Prod Nat Blk))) ∧
 (∃ n4 : Int, (∃ n5 : Int, (∃ n6 : Int, (∃ xs1 : (List (List AV)), (∃ n7 : Int, ((ACalls Try.prog 24 [(AV.ag [(AV.i IntKind.i64 n), (AV.i IntKind.i64 n1), (AV.i IntKind.i64 n2), (AV.sl xs)]), (AV.ag [(AV.s (ByteArray.mk (Array.mk [(112 : UInt8)]))), (AV.s (ByteArray.mk (Array.mk [(116 : UInt8)])))]), (AV.i IntKind.i64 (0 : Int)), (AV.s (ByteArray.mk (Array.mk [(97 : UInt8), (110 : UInt8), (110 : UInt8)]))), (AV.i IntKind.i64 (5 : Int)), (AV.i IntKind.i64 (15 : Int))] ([] : List (Prod Nat Blk)) (AV.tup [(AV.ag ([(AV.i IntKind.i64 n4)] ++ ([(AV.i IntKind.i64 n5)] ++ ([(AV.i IntKind.i64 n6)] ++ ([(AV.sl xs1)] ++ ([] : List AV) : (List AV)) : (List AV)) : (List AV)) : (List AV))), (AV.i IntKind.i64 n7)]) ([] : List (Prod Nat Blk))) ∧
 (∃ n8 : Int, (∃ n9 : Int, (∃ n10 : Int, (∃ xs2 : (List (List AV)), (∃ n11 : Int, ((ACalls Try.prog 24 [(AV.ag [(AV.i IntKind.i64 n4), (AV.i IntKind.i64 n5), (AV.i IntKind.i64 n6), (AV.sl xs1)]), (AV.ag [(AV.s (ByteArray.mk (Array.mk [(112 : UInt8)]))), (AV.s (ByteArray.mk (Array.mk [(116 : UInt8)])))]), (AV.i IntKind.i64 (1 : Int)), (AV.s (ByteArray.mk (Array.mk [(97 : UInt8), (110 : UInt8), (110 : UInt8)]))), (AV.i IntKind.i64 (5 : Int)), (AV.i IntKind.i64 (15 : Int))] ([] : List (Prod Nat Blk)) (AV.tup [(AV.ag ([(AV.i IntKind.i64 n8)] ++ ([(AV.i IntKind.i64 n9)] ++ ([(AV.i IntKind.i64 n10)] ++ ([(AV.sl xs2)] ++ ([] : List AV) : (List AV)) : (List AV)) : (List AV)) : (List AV))), (AV.i IntKind.i64 n11)]) ([] : List (Prod Nat Blk))) ∧
 (∃ n12 : Int, (∃ n13 : Int, (∃ n14 : Int, (∃ xs3 : (List (List AV)), (∃ n15 : Int, ((ACalls Try.prog 31 [(AV.ag [(AV.i IntKind.i64 n4), (AV.i IntKind.i64 n5), (AV.i IntKind.i64 n6), (AV.sl xs1)]), (AV.ag [(AV.s (ByteArray.mk (Array.mk [(112 : UInt8)]))), (AV.s (ByteArray.mk (Array.mk [(116 : UInt8)])))]), (AV.i IntKind.i64 (0 : Int)), (AV.i IntKind.i64 (14 : Int)), (AV.i IntKind.i64 (24 : Int))] ([] : List (Prod Nat Blk)) (AV.tup [(AV.ag ([(AV.i IntKind.i64 n12)] ++ ([(AV.i IntKind.i64 n13)] ++ ([(AV.i IntKind.i64 n14)] ++ ([(AV.sl xs3)] ++ ([] : List AV) : (List AV)) : (List AV)) : (List AV)) : (List AV))), (AV.i IntKind.i64 n15)]) ([] : List (Prod Nat Blk))) ∧
 (∃ n16 : Int, (∃ n17 : Int, (∃ n18 : Int, (∃ xs4 : (List (List AV)), (∃ n19 : Int, ((ACalls Try.prog 31 [(AV.ag [(AV.i IntKind.i64 n12), (AV.i IntKind.i64 n13), (AV.i IntKind.i64 n14), (AV.sl xs3)]), (AV.ag [(AV.s (ByteArray.mk (Array.mk [(112 : UInt8)]))), (AV.s (ByteArray.mk (Array.mk [(116 : UInt8)])))]), (AV.i IntKind.i64 (0 : Int)), (AV.i IntKind.i64 (14 : Int)), (AV.i IntKind.i64 (25 : Int))] ([] : List (Prod Nat Blk)) (AV.tup [(AV.ag ([(AV.i IntKind.i64 n16)] ++ ([(AV.i IntKind.i64 n17)] ++ ([(AV.i IntKind.i64 n18)] ++ ([(AV.sl xs4)] ++ ([] : List AV) : (List AV)) : (List AV)) : (List AV)) : (List AV))), (AV.i IntKind.i64 n19)]) ([] : List (Prod Nat Blk))) ∧
 (∃ n20 : Int, (∃ n21 : Int, (∃ n22 : Int, (∃ xs5 : (List (List AV)), (∃ xs6 : (List (List AV)), (∃ n23 : Int, ((ACalls Try.prog 18 [(AV.ag [(AV.i IntKind.i64 n12), (AV.i IntKind.i64 n13), (AV.i IntKind.i64 n14), (AV.sl xs3)]), (AV.i IntKind.i64 (24 : Int))] ([] : List (Prod Nat Blk)) (AV.tup [(AV.ag ([(AV.i IntKind.i64 n20)] ++ ([(AV.i IntKind.i64 n21)] ++ ([(AV.i IntKind.i64 n22)] ++ ([(AV.sl xs5)] ++ ([] : List AV) : (List AV)) : (List AV)) : (List AV)) : (List AV))), (AV.sl xs6), (AV.i IntKind.i64 n23)]) ([] : List (Prod Nat Blk))) ∧
 (brP (decide (n3 = ((0 : Int) : Int))) (brP (decide (n7 = ((0 : Int) : Int))) (brP (decide (n11 = ((43 : Int) : Int))) (brP (decide (n15 = ((0 : Int) : Int))) (brP (decide (n19 = ((45 : Int) : Int))) (brP (decide (n23 = ((0 : Int) : Int))) (brP (decide ((((List.length xs6) : Nat) : Int) = ((1 : Int) : Int))) ((((0 : Int) : Int) ≤ (0 : Int)) ∧
 ((((0 : Int) : Int) < (((List.length xs6) : Nat) : Int)) ∧
 (∃ x : ByteArray, (∃ x1 : ByteArray, (∃ n24 : Int, (∃ x2 : ByteArray, (∃ n25 : Int, (∃ n26 : Int, (∃ n27 : Int, (∃ n28 : Int, (((xs6)[0]? = ((Option.some [(AV.s x), (AV.s x1), (AV.i IntKind.i64 n24), (AV.s x2), (AV.i IntKind.i64 n25), (AV.i IntKind.i64 n26), (AV.i IntKind.i64 n27), (AV.i IntKind.i64 n28)]) : (Option (List AV)))) ∧
 (((List.length (([(AV.s x)] ++ ([(AV.s x1)] ++ ([] : List AV) : (List AV)) : (List AV)) ++ ([(AV.i IntKind.i64 n24)] ++ ([(AV.s x2)] ++ ([(AV.i IntKind.i64 n25)] ++ ([(AV.i IntKind.i64 n26)] ++ ([(AV.i IntKind.i64 n27)] ++ ([(AV.i IntKind.i64 n28)] ++ ([] : List AV) : (List AV)) : (List AV)) : (List AV)) : (List AV)) : (List AV)) : (List AV)) : (List AV))) = (8 : Nat)) ∧
 (((AV.b (decide (n26 = ((24 : Int) : Int)))) = (v : AV)) ∧
 (([] : List (Prod Nat Blk)) = (([] : List (Prod Nat Blk)) : Heap))))))))))))))) (((AV.b Bool.false) = (v : AV)) ∧
 (([] : List (Prod Nat Blk)) = (([] : List (Prod Nat Blk)) : Heap)))) (((AV.b Bool.false) = (v : AV)) ∧
 (([] : List (Prod Nat Blk)) = (([] : List (Prod Nat Blk)) : Heap)))) (((AV.b Bool.false) = (v : AV)) ∧
 (([] : List (Prod Nat Blk)) = (([] : List (Prod Nat Blk)) : Heap)))) (((AV.b Bool.false) = (v : AV)) ∧
 (([] : List (Prod Nat Blk)) = (([] : List (Prod Nat Blk)) : Heap)))) (((AV.b Bool.false) = (v : AV)) ∧
 (([] : List (Prod Nat Blk)) = (([] : List (Prod Nat Blk)) : Heap)))) (((AV.b Bool.false) = (v : AV)) ∧
 (([] : List (Prod Nat Blk)) = (([] : List (Prod Nat Blk)) : Heap)))) (((AV.b Bool.false) = (v : AV)) ∧
 (([] : List (Prod Nat Blk)) = (([] : List (Prod Nat Blk)) : Heap)))))))))))))))))))))))))))))))))))))))))
theorem vKnown_eq (v : AV) : vKnown v = (evF Try.prog TQ Try.f14 [] noK [] [] [] v []) := by kernel_rfl

def vNews (a b c : Int) (v : AV) : Prop :=
 (∃ n : Int, (∃ n1 : Int, (∃ n2 : Int, (∃ xs : (List (List AV)), (∃ n3 : Int, ((ACalls Try.prog 10 [(AV.i IntKind.i64 a), (AV.i IntKind.i64 b), (AV.i IntKind.i64 c)] ([] : List (Prod Nat Blk)) (AV.tup [(AV.ag ([(AV.i IntKind.i64 n)] ++ ([(AV.i IntKind.i64 n1)] ++ ([(AV.i IntKind.i64 n2)] ++ ([(AV.sl xs)] ++ ([] : List AV) : (List AV)) : (List AV)) : (List AV)) : (List AV))), (AV.i IntKind.i64 n3)]) ([] : List (Prod Nat Blk))) ∧
 (∃ n4 : Int, (∃ n5 : Int, (∃ n6 : Int, (∃ xs1 : (List (List AV)), (∃ n7 : Int, ((ACalls Try.prog 11 [(AV.i IntKind.i64 a), (AV.i IntKind.i64 b), (AV.i IntKind.i64 c)] ([] : List (Prod Nat Blk)) (AV.tup [(AV.ag ([(AV.i IntKind.i64 n4)] ++ ([(AV.i IntKind.i64 n5)] ++ ([(AV.i IntKind.i64 n6)] ++ ([(AV.sl xs1)] ++ ([] : List AV) : (List AV)) : (List AV)) : (List AV)) : (List AV))), (AV.i IntKind.i64 n7)]) ([] : List (Prod Nat Blk))) ∧
 (brP (decide (n3 = (n7 : Int))) (∃ x : Bool, ((ACalls Try.prog 12 [(AV.ag [(AV.i IntKind.i64 n), (AV.i IntKind.i64 n1), (AV.i IntKind.i64 n2), (AV.sl xs)]), (AV.ag [(AV.i IntKind.i64 n4), (AV.i IntKind.i64 n5), (AV.i IntKind.i64 n6), (AV.sl xs1)])] ([] : List (Prod Nat Blk)) (AV.b x) ([] : List (Prod Nat Blk))) ∧
 (brP x (∃ x1 : Bool, ((ACalls Try.prog 13 [(AV.ag [(AV.i IntKind.i64 n), (AV.i IntKind.i64 n1), (AV.i IntKind.i64 n2), (AV.sl xs)])] ([] : List (Prod Nat Blk)) (AV.b x1) ([] : List (Prod Nat Blk))) ∧
 (brP (x1 == (decide (n3 = ((0 : Int) : Int)))) (∃ x2 : Bool, ((ACalls Try.prog 14 ([] : List AV) ([] : List (Prod Nat Blk)) (AV.b x2) ([] : List (Prod Nat Blk))) ∧
 (((AV.b x2) = (v : AV)) ∧
 (([] : List (Prod Nat Blk)) = (([] : List (Prod Nat Blk)) : Heap))))) (((AV.b Bool.false) = (v : AV)) ∧
 (([] : List (Prod Nat Blk)) = (([] : List (Prod Nat Blk)) : Heap)))))) (((AV.b Bool.false) = (v : AV)) ∧
 (([] : List (Prod Nat Blk)) = (([] : List (Prod Nat Blk)) : Heap)))))) (((AV.b Bool.false) = (v : AV)) ∧
 (([] : List (Prod Nat Blk)) = (([] : List (Prod Nat Blk)) : Heap))))))))))))))))
theorem vNews_eq (a b c : Int) (v : AV) : vNews a b c v = (evF Try.prog TQ Try.f3 [] noK [.i .i64 a, .i .i64 b, .i .i64 c] [] [] v []) := by kernel_rfl

end Go.AM.Q
set_option maxRecDepth 100000
set_option linter.unusedVariables false
set_option linter.unusedSimpArgs false
namespace Go.AM.Q
open Go.Proofs
def kP : ByteArray := ⟨⟨[112]⟩⟩
def kT : ByteArray := ⟨⟨[116]⟩⟩
def kA : ByteArray := ⟨⟨[97, 110, 110]⟩⟩
def kX : Held := ⟨kP, kT, 0, kA, 5, 15, 0, 0⟩
def kY : Held := ⟨kP, kT, 1, kA, 5, 15, 0, 0⟩
def kZ : Held := ⟨kP, kT, 0, kA, 5, 24, 1, 0⟩
theorem k1 : newR 1 2 10 = okQ 1 2 10 [] := by kernel_rfl
theorem k2 : addR 1 2 10 [] kX = okQ 1 2 10 [kX] := by kernel_rfl
theorem k3 : addR 1 2 10 [kX] kY = errQ 43 := by kernel_rfl
theorem k4 : renewR 1 2 10 [kX] ⟨kP, kT, 0, 14⟩ 24 = okQ 1 2 10 [kZ] := by kernel_rfl
theorem k5 : renewR 1 2 10 [kZ] ⟨kP, kT, 0, 14⟩ 25 = errQ 45 := by kernel_rfl
theorem k6 : expR 1 2 10 [kZ] 24 = .tup [qAV 1 2 10 (rowH []), .sl (rowH [kZ]), .i .i64 0] := by kernel_rfl
theorem known_calls : ACalls Try.prog 14 [] [] (.b true) [] :=
  acalls_vc (vKnown_eq _) (by kernel_rfl) (by kernel_rfl) noK_runs (by
    have c1 := new_calls 1 2 10
    have c2 := add_calls 1 2 10 [] kP kT 0 kA 5 15
    have c3 := add_calls 1 2 10 [kX] kP kT 1 kA 5 15
    have c4 := renew_calls 1 2 10 [kX] ⟨kP, kT, 0, 14⟩ 24 (by decide)
    have c5 := renew_calls 1 2 10 [kZ] ⟨kP, kT, 0, 14⟩ 25 (by decide)
    have c6 := expire_calls 1 2 10 [kZ] 24
    rw [k1] at c1
    rw [show addR 1 2 10 [] ⟨kP, kT, 0, kA, 5, 15, 0, 0⟩ = _ from k2] at c2
    rw [show addR 1 2 10 [kX] ⟨kP, kT, 1, kA, 5, 15, 0, 0⟩ = _ from k3] at c3
    rw [k4] at c4
    rw [k5] at c5
    rw [k6] at c6
    simp only [vKnown, brP_iff]
    refine ⟨_, _, _, _, _, c1, _, _, _, _, _, c2, _, _, _, _, _, c3, _, _, _, _, _, c4, _, _, _, _, _, c5, _, _, _, _, _, _, c6, ?_⟩
    simp [rowH, kZ, Held.cells])
theorem listEq_iff : ∀ l m : List Held, listEq l m = true ↔ l = m
  | [], [] => by simp [listEq]
  | [], _ :: _ => by simp [listEq]
  | _ :: _, [] => by simp [listEq]
  | h :: r, k :: s => by simp [listEq, heldEq_iff, listEq_iff r s]
theorem sameB_iff (a b c a' b' c' : Int) (l m : List Held) : sameB a b c a' b' c' l m = true ↔ a = a' ∧ b = b' ∧ c = c' ∧ l = m := by
  simp only [sameB, Bool.and_eq_true, decide_eq_true_eq, listEq_iff, and_assoc]
theorem sameB_self (a b c : Int) (l : List Held) : sameB a b c a b c l l = true := (sameB_iff ..).2 ⟨rfl, rfl, rfl, rfl⟩
theorem same_self (a b c : Int) (l : List Held) (hx : l.length < 9223372036854775807) : ACalls Try.prog 12 [qAV a b c (rowH l), qAV a b c (rowH l)] [] (.b true) [] := by
  have := same_calls a b c a b c l l hx
  rwa [sameB_self] at this
theorem check_nil {a b c : Int} (h : sizesB a b c = true) : checkB a b c [] = true := by
  rw [check_iff]
  refine ⟨h, ?_, .nil a c⟩
  simp only [sizesB, Bool.and_eq_true, decide_eq_true_eq] at h
  simp only [List.length_nil]
  omega
theorem news_calls (a b c : Int) : ACalls Try.prog 3 [.i .i64 a, .i .i64 b, .i .i64 c] [] (.b true) [] :=
  acalls_vc (vNews_eq a b c _) (by kernel_rfl) (by kernel_rfl) noK_runs (by
    have c1 := new_calls a b c
    have c2 := new2_calls a b c
    simp only [vNews, brP_iff]
    cases h : sizesB a b c with
    | true =>
      rw [newR, h] at c1 c2
      refine ⟨_, _, _, _, _, c1, _, _, _, _, _, c2, fun _ => ⟨true, same_self a b c [] (by decide), fun _ => ⟨_, check_calls a b c [], fun _ => ⟨_, known_calls, rfl, by trivial⟩, fun h1 => ?_⟩, fun h1 => by cases h1⟩, fun h1 => by cases h1⟩
      rw [check_nil h] at h1
      simp at h1
    | false =>
      rw [newR, h] at c1 c2
      refine ⟨_, _, _, _, _, c1, _, _, _, _, _, c2, fun _ => ⟨true, same_self 0 0 0 [] (by decide), fun _ => ⟨_, check_calls 0 0 0 [], fun _ => ⟨_, known_calls, rfl, by trivial⟩, fun h1 => ?_⟩, fun h1 => by cases h1⟩, fun h1 => by simp at h1⟩
      rw [show checkB 0 0 0 [] = false by rfl] at h1
      simp at h1)
end Go.AM.Q
