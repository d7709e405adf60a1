/- Quarantine: conditions of Add, Renew, Release, Charge, Expire. -/
import Derived.Test.YthcpekjcnokonaaQG
import Derived.KernelRfl
set_option maxRecDepth 100000
set_option linter.unusedVariables false
namespace Go.AM.Q
open Go.Proofs
--BEGIN
def vAdd (a b c : Int) (l : List Held) (p t : ByteArray) (e : Int) (o : ByteArray) (f u : Int) (v : AV) : Prop :=
 (∃ x : Bool, ((ACalls Try.prog 13 [(AV.ag [(AV.i IntKind.i64 a), (AV.i IntKind.i64 b), (AV.i IntKind.i64 c), (AV.sl (Q.rowH l))])] ([] : List (Prod Nat Blk)) (AV.b x) ([] : List (Prod Nat Blk))) ∧
 (brP (!x) (((AV.tup [(AV.ag [(AV.i IntKind.i64 (0 : Int)), (AV.i IntKind.i64 (0 : Int)), (AV.i IntKind.i64 (0 : Int)), (AV.sl ([] : List (List AV)))]), (AV.i IntKind.i64 (1 : Int))]) = (v : AV)) ∧
 (([] : List (Prod Nat Blk)) = (([] : List (Prod Nat Blk)) : Heap))) (∃ x1 : Bool, ((ACalls Try.prog 44 [(AV.ag [(AV.s p), (AV.s t), (AV.i IntKind.i64 e), (AV.s o), (AV.i IntKind.i64 f), (AV.i IntKind.i64 u), (AV.i IntKind.i64 (0 : Int)), (AV.i IntKind.i64 (0 : Int))])] ([] : List (Prod Nat Blk)) (AV.b x1) ([] : List (Prod Nat Blk))) ∧
 (brP (!x1) (((AV.tup [(AV.ag [(AV.i IntKind.i64 (0 : Int)), (AV.i IntKind.i64 (0 : Int)), (AV.i IntKind.i64 (0 : Int)), (AV.sl ([] : List (List AV)))]), (AV.i IntKind.i64 (1 : Int))]) = (v : AV)) ∧
 (([] : List (Prod Nat Blk)) = (([] : List (Prod Nat Blk)) : Heap))) (brP (decide ((f : Int) < (0 : Int))) (((AV.tup [(AV.ag [(AV.i IntKind.i64 (0 : Int)), (AV.i IntKind.i64 (0 : Int)), (AV.i IntKind.i64 (0 : Int)), (AV.sl ([] : List (List AV)))]), (AV.i IntKind.i64 (3 : Int))]) = (v : AV)) ∧
 (([] : List (Prod Nat Blk)) = (([] : List (Prod Nat Blk)) : Heap))) (brP (decide ((u : Int) ≤ f)) (((AV.tup [(AV.ag [(AV.i IntKind.i64 (0 : Int)), (AV.i IntKind.i64 (0 : Int)), (AV.i IntKind.i64 (0 : Int)), (AV.sl ([] : List (List AV)))]), (AV.i IntKind.i64 (3 : Int))]) = (v : AV)) ∧
 (([] : List (Prod Nat Blk)) = (([] : List (Prod Nat Blk)) : Heap))) (brP (decide (((1073741824 : Int) : Int) < u)) (((AV.tup [(AV.ag [(AV.i IntKind.i64 (0 : Int)), (AV.i IntKind.i64 (0 : Int)), (AV.i IntKind.i64 (0 : Int)), (AV.sl ([] : List (List AV)))]), (AV.i IntKind.i64 (3 : Int))]) = (v : AV)) ∧
 (([] : List (Prod Nat Blk)) = (([] : List (Prod Nat Blk)) : Heap))) (brP (decide ((c : Int) < (IntKind.wrap IntKind.i64 (u - f : Int)))) (((AV.tup [(AV.ag [(AV.i IntKind.i64 (0 : Int)), (AV.i IntKind.i64 (0 : Int)), (AV.i IntKind.i64 (0 : Int)), (AV.sl ([] : List (List AV)))]), (AV.i IntKind.i64 (44 : Int))]) = (v : AV)) ∧
 (([] : List (Prod Nat Blk)) = (([] : List (Prod Nat Blk)) : Heap))) (∃ x2 : Bool, ((ACalls Try.prog 45 [(AV.sl (Q.rowH l)), (AV.fn 46 ([] : List AV) [(AV.pp [(AV.s p), (AV.s t), (AV.i IntKind.i64 e), (AV.s o), (AV.i IntKind.i64 f), (AV.i IntKind.i64 u), (AV.i IntKind.i64 (0 : Int)), (AV.i IntKind.i64 (0 : Int))])])] ([] : List (Prod Nat Blk)) (AV.b x2) ([] : List (Prod Nat Blk))) ∧
 (brP x2 (((AV.tup [(AV.ag [(AV.i IntKind.i64 (0 : Int)), (AV.i IntKind.i64 (0 : Int)), (AV.i IntKind.i64 (0 : Int)), (AV.sl ([] : List (List AV)))]), (AV.i IntKind.i64 (19 : Int))]) = (v : AV)) ∧
 (([] : List (Prod Nat Blk)) = (([] : List (Prod Nat Blk)) : Heap))) (brP (decide ((((List.length (Q.rowH l)) : Nat) : Int) = (b : Int))) (((AV.tup [(AV.ag [(AV.i IntKind.i64 (0 : Int)), (AV.i IntKind.i64 (0 : Int)), (AV.i IntKind.i64 (0 : Int)), (AV.sl ([] : List (List AV)))]), (AV.i IntKind.i64 (42 : Int))]) = (v : AV)) ∧
 (([] : List (Prod Nat Blk)) = (([] : List (Prod Nat Blk)) : Heap))) (∃ n : Int, ((ACalls Try.prog 20 [(AV.ag [(AV.i IntKind.i64 a), (AV.i IntKind.i64 b), (AV.i IntKind.i64 c), (AV.sl (Q.rowH l))]), (AV.s o)] ([] : List (Prod Nat Blk)) (AV.i IntKind.i64 n) ([] : List (Prod Nat Blk))) ∧
 ((Bool.true = (Bool.true : Bool)) ∧
 (brP (decide (n = (a : Int))) (((AV.tup [(AV.ag [(AV.i IntKind.i64 (0 : Int)), (AV.i IntKind.i64 (0 : Int)), (AV.i IntKind.i64 (0 : Int)), (AV.sl ([] : List (List AV)))]), (AV.i IntKind.i64 (43 : Int))]) = (v : AV)) ∧
 (([] : List (Prod Nat Blk)) = (([] : List (Prod Nat Blk)) : Heap))) (∃ n1 : Int, (∃ x3 : Bool, ((ACalls Try.prog 47 [(AV.sl (Q.rowH l)), (AV.ag [(AV.s p), (AV.s t), (AV.i IntKind.i64 e), (AV.s o), (AV.i IntKind.i64 f), (AV.i IntKind.i64 u), (AV.i IntKind.i64 (0 : Int)), (AV.i IntKind.i64 (0 : Int))]), (AV.fn 48 ([] : List AV) ([] : List AV))] ([] : List (Prod Nat Blk)) (AV.tup [(AV.i IntKind.i64 n1), (AV.b x3)]) ([] : List (Prod Nat Blk))) ∧
 ((ACalls Try.prog 50 [(AV.sl (Q.rowH l))] ([] : List (Prod Nat Blk)) (AV.own 0) [(0, (Blk.row 41 8 (Q.rowH l)))]) ∧
 ((ACalls Try.prog 49 [(AV.own 0), (AV.i IntKind.i64 n1), (AV.own 1)] [(0, (Blk.row 41 8 (Q.rowH l))), (1, (Blk.row 41 8 [[(AV.s p), (AV.s t), (AV.i IntKind.i64 e), (AV.s o), (AV.i IntKind.i64 f), (AV.i IntKind.i64 u), (AV.i IntKind.i64 (0 : Int)), (AV.i IntKind.i64 (0 : Int))]]))] (AV.own 2) [(2, (Blk.row 41 8 (((List.take (Int.toNat n1) (Q.rowH l)) ++ [[(AV.s p), (AV.s t), (AV.i IntKind.i64 e), (AV.s o), (AV.i IntKind.i64 f), (AV.i IntKind.i64 u), (AV.i IntKind.i64 (0 : Int)), (AV.i IntKind.i64 (0 : Int))]] : (List (List AV))) ++ (List.drop (Int.toNat n1) (Q.rowH l)) : (List (List AV)))))]) ∧
 ((Bool.true = (Bool.true : Bool)) ∧
 (((AV.tup [(AV.ag [(AV.i IntKind.i64 a), (AV.i IntKind.i64 b), (AV.i IntKind.i64 c), (AV.sl (((List.take (Int.toNat n1) (Q.rowH l)) ++ [[(AV.s p), (AV.s t), (AV.i IntKind.i64 e), (AV.s o), (AV.i IntKind.i64 f), (AV.i IntKind.i64 u), (AV.i IntKind.i64 (0 : Int)), (AV.i IntKind.i64 (0 : Int))]] : (List (List AV))) ++ (List.drop (Int.toNat n1) (Q.rowH l)) : (List (List AV))))]), (AV.i IntKind.i64 (0 : Int))]) = (v : AV)) ∧
 (([] : List (Prod Nat Blk)) = (([] : List (Prod Nat Blk)) : Heap)))))))))))))))))))))))))))
theorem vAdd_eq (a b c : Int) (l : List Held) (p t : ByteArray) (e : Int) (o : ByteArray) (f u : Int) (v : AV) : vAdd a b c l p t e o f u v = (evF Try.prog TQ Try.f24 [] noK [qAV a b c (rowH l), .ag [.s p, .s t], .i .i64 e, .s o, .i .i64 f, .i .i64 u] [] [] v []) := by kernel_rfl

def vRel1 (xs : List (List AV)) (j : Nat) (v : AV) (σ : Heap) : Prop :=
 (((AV.tup [(AV.b Bool.false), (AV.i IntKind.i64 (0 : Int))]) = (v : AV)) ∧
 ([(0, (Blk.row 41 8 xs))] = (σ : Heap)))
theorem vRel1_eq (xs : List (List AV)) (j : Nat) (v : AV) (σ : Heap) : vRel1 xs j v σ = (evF Try.prog TQ Try.f41 [] noK [.eptr 0 8 j 0] [(0, .row 41 8 xs)] [] v σ) := by kernel_rfl

def vChg1 (xs : List (List AV)) (j : Nat) (v : AV) (σ : Heap) : Prop :=
 (∃ n : Int, ((∃ el : (List AV), (((xs)[j]? = ((Option.some el) : (Option (List AV)))) ∧
 (((List.take 1 (List.drop 7 el)) = ([(AV.i IntKind.i64 n)] : (List AV))) ∧
 (1 = (1 : Nat))))) ∧
 (brP (decide (n = ((1073741824 : Int) : Int))) (((AV.tup [(AV.b Bool.true), (AV.i IntKind.i64 (2 : Int))]) = (v : AV)) ∧
 ([(0, (Blk.row 41 8 xs))] = (σ : Heap))) (∃ n1 : Int, ((∃ el : (List AV), (((xs)[j]? = ((Option.some el) : (Option (List AV)))) ∧
 (((List.take 1 (List.drop 7 el)) = ([(AV.i IntKind.i64 n1)] : (List AV))) ∧
 (1 = (1 : Nat))))) ∧
 (∃ el : (List AV), (((xs)[j]? = ((Option.some el) : (Option (List AV)))) ∧
 (((8 : Nat) ≤ (List.length el)) ∧
 (((AV.tup [(AV.b Bool.true), (AV.i IntKind.i64 (0 : Int))]) = (v : AV)) ∧
 ([(0, (Blk.row 41 8 (List.set xs j (splice el 7 [(AV.i IntKind.i64 (IntKind.wrap IntKind.i64 (n1 + (1 : Int) : Int)))]))))] = (σ : Heap)))))))))))
theorem vChg1_eq (xs : List (List AV)) (j : Nat) (v : AV) (σ : Heap) : vChg1 xs j v σ = (evF Try.prog TQ Try.f43 [] noK [.eptr 0 8 j 0] [(0, .row 41 8 xs)] [] v σ) := by kernel_rfl

def vRen1 (xs : List (List AV)) (j : Nat) (u n a b c : Int) (l : List Held) (v : AV) (σ : Heap) : Prop :=
 (∃ x : ByteArray, (∃ x1 : ByteArray, (∃ n1 : Int, (∃ x2 : ByteArray, (∃ n2 : Int, (∃ n3 : Int, (∃ n4 : Int, (∃ n5 : Int, ((∃ el : (List AV), (((xs)[j]? = ((Option.some el) : (Option (List AV)))) ∧
 (((List.take 8 (List.drop 0 el)) = ([(AV.s x), (AV.s x1), (AV.i IntKind.i64 n1), (AV.s x2), (AV.i IntKind.i64 n2), (AV.i IntKind.i64 n3), (AV.i IntKind.i64 n4), (AV.i IntKind.i64 n5)] : (List AV))) ∧
 ((List.length (([(AV.s x)] ++ ([(AV.s x1)] ++ ([] : List AV) : (List AV)) : (List AV)) ++ ([(AV.i IntKind.i64 n1)] ++ ([(AV.s x2)] ++ ([(AV.i IntKind.i64 n2)] ++ ([(AV.i IntKind.i64 n3)] ++ ([(AV.i IntKind.i64 n4)] ++ ([(AV.i IntKind.i64 n5)] ++ ([] : List AV) : (List AV)) : (List AV)) : (List AV)) : (List AV)) : (List AV)) : (List AV)) : (List AV))) = (8 : Nat))))) ∧
 (brP (decide (n4 = ((1 : Int) : Int))) (((AV.tup [(AV.b Bool.true), (AV.i IntKind.i64 (45 : Int))]) = (v : AV)) ∧
 ([(0, (Blk.row 41 8 xs))] = (σ : Heap))) (brP (decide ((u : Int) ≤ n3)) (((AV.tup [(AV.b Bool.true), (AV.i IntKind.i64 (3 : Int))]) = (v : AV)) ∧
 ([(0, (Blk.row 41 8 xs))] = (σ : Heap))) (brP (decide (((1073741824 : Int) : Int) < u)) (((AV.tup [(AV.b Bool.true), (AV.i IntKind.i64 (3 : Int))]) = (v : AV)) ∧
 ([(0, (Blk.row 41 8 xs))] = (σ : Heap))) (brP (decide ((c : Int) < (IntKind.wrap IntKind.i64 (u - n : Int)))) (((AV.tup [(AV.b Bool.true), (AV.i IntKind.i64 (44 : Int))]) = (v : AV)) ∧
 ([(0, (Blk.row 41 8 xs))] = (σ : Heap))) (∃ x3 : Bool, ((ACalls Try.prog 45 [(AV.sl (Q.rowH l)), (AV.fn 55 ([] : List AV) [(AV.pp [(AV.s x), (AV.s x1), (AV.i IntKind.i64 n1), (AV.s x2), (AV.i IntKind.i64 n2), (AV.i IntKind.i64 n3), (AV.i IntKind.i64 n4), (AV.i IntKind.i64 n5)]), (AV.pp [(AV.s x), (AV.s x1), (AV.i IntKind.i64 n1), (AV.s x2), (AV.i IntKind.i64 n2), (AV.i IntKind.i64 u), (AV.i IntKind.i64 (1 : Int)), (AV.i IntKind.i64 n5)])])] ([] : List (Prod Nat Blk)) (AV.b x3) ([] : List (Prod Nat Blk))) ∧
 (brP x3 (((AV.tup [(AV.b Bool.true), (AV.i IntKind.i64 (19 : Int))]) = (v : AV)) ∧
 ([(0, (Blk.row 41 8 xs))] = (σ : Heap))) (∃ el : (List AV), (((xs)[j]? = ((Option.some el) : (Option (List AV)))) ∧
 (((8 : Nat) ≤ (List.length el)) ∧
 (((AV.tup [(AV.b Bool.true), (AV.i IntKind.i64 (0 : Int))]) = (v : AV)) ∧
 ([(0, (Blk.row 41 8 (List.set xs j (splice el 0 [(AV.s x), (AV.s x1), (AV.i IntKind.i64 n1), (AV.s x2), (AV.i IntKind.i64 n2), (AV.i IntKind.i64 u), (AV.i IntKind.i64 (1 : Int)), (AV.i IntKind.i64 n5)]))))] = (σ : Heap))))))))))))))))))))))
theorem vRen1_eq (xs : List (List AV)) (j : Nat) (u n a b c : Int) (l : List Held) (v : AV) (σ : Heap) : vRen1 xs j u n a b c l v σ = (evF Try.prog TQ Try.f54 [] noK [.eptr 0 8 j 0, .pp [.i .i64 u], .pp [.i .i64 n], .pp [.i .i64 a, .i .i64 b, .i .i64 c, .sl (rowH l)]] [(0, .row 41 8 xs)] [] v σ) := by kernel_rfl

def vChangeR (u n a' b' c' : Int) (l' : List Held) (a b c : Int) (l : List Held) (m : Mom) (v : AV) : Prop :=
 (∃ x : Bool, ((ACalls Try.prog 13 [(AV.ag [(AV.i IntKind.i64 a), (AV.i IntKind.i64 b), (AV.i IntKind.i64 c), (AV.sl (Q.rowH l))])] ([] : List (Prod Nat Blk)) (AV.b x) ([] : List (Prod Nat Blk))) ∧
 (brP (!x) (((AV.tup [(AV.ag [(AV.i IntKind.i64 (0 : Int)), (AV.i IntKind.i64 (0 : Int)), (AV.i IntKind.i64 (0 : Int)), (AV.sl ([] : List (List AV)))]), (AV.i IntKind.i64 (1 : Int))]) = (v : AV)) ∧
 (([] : List (Prod Nat Blk)) = (([] : List (Prod Nat Blk)) : Heap))) (∃ n1 : Int, ((ACalls Try.prog 42 [(AV.ag [(AV.i IntKind.i64 a), (AV.i IntKind.i64 b), (AV.i IntKind.i64 c), (AV.sl (Q.rowH l))]), (AV.ag [(AV.s (m).1), (AV.s (m).2)]), (AV.i IntKind.i64 (m).3), (AV.i IntKind.i64 (m).4)] ([] : List (Prod Nat Blk)) (AV.i IntKind.i64 n1) ([] : List (Prod Nat Blk))) ∧
 (brP (decide ((n1 : Int) < (0 : Int))) (((AV.tup [(AV.ag [(AV.i IntKind.i64 (0 : Int)), (AV.i IntKind.i64 (0 : Int)), (AV.i IntKind.i64 (0 : Int)), (AV.sl ([] : List (List AV)))]), (AV.i IntKind.i64 (18 : Int))]) = (v : AV)) ∧
 (([] : List (Prod Nat Blk)) = (([] : List (Prod Nat Blk)) : Heap))) ((ACalls Try.prog 50 [(AV.sl (Q.rowH l))] ([] : List (Prod Nat Blk)) (AV.own 0) [(0, (Blk.row 41 8 (Q.rowH l)))]) ∧
 ((((0 : Int) : Int) ≤ n1) ∧
 (((n1 : Int) < (((List.length (Q.rowH l)) : Nat) : Int)) ∧
 (∃ b1 : Bool, (∃ n2 : Int, (∃ xs' : (List (List AV)), ((ACalls Try.prog 54 [(AV.eptr 0 8 (Int.toNat n1) 0), (AV.pp [(AV.i IntKind.i64 u)]), (AV.pp [(AV.i IntKind.i64 n)]), (AV.pp [(AV.i IntKind.i64 a'), (AV.i IntKind.i64 b'), (AV.i IntKind.i64 c'), (AV.sl (Q.rowH l'))])] [(0, (Blk.row 41 8 (Q.rowH l)))] (AV.tup [(AV.b b1), (AV.i IntKind.i64 n2)]) [(0, (Blk.row 41 8 xs'))]) ∧
 (brP (!(decide (n2 = ((0 : Int) : Int)))) (((AV.tup [(AV.ag [(AV.i IntKind.i64 (0 : Int)), (AV.i IntKind.i64 (0 : Int)), (AV.i IntKind.i64 (0 : Int)), (AV.sl ([] : List (List AV)))]), (AV.i IntKind.i64 n2)]) = (v : AV)) ∧
 (([] : List (Prod Nat Blk)) = (([] : List (Prod Nat Blk)) : Heap))) (brP (!b1) ((ACalls Try.prog 68 [(AV.own 0), (AV.i IntKind.i64 n1), (AV.i IntKind.i64 (IntKind.wrap IntKind.i64 (n1 + (1 : Int) : Int)))] [(0, (Blk.row 41 8 xs'))] (AV.own 1) [(1, (Blk.row 41 8 ((List.take (Int.toNat n1) xs') ++ (List.drop (Int.toNat (IntKind.wrap IntKind.i64 (n1 + (1 : Int) : Int))) xs') : (List (List AV)))))]) ∧
 (((AV.tup [(AV.ag [(AV.i IntKind.i64 a), (AV.i IntKind.i64 b), (AV.i IntKind.i64 c), (AV.sl ((List.take (Int.toNat n1) xs') ++ (List.drop (Int.toNat (IntKind.wrap IntKind.i64 (n1 + (1 : Int) : Int))) xs') : (List (List AV))))]), (AV.i IntKind.i64 (0 : Int))]) = (v : AV)) ∧
 (([] : List (Prod Nat Blk)) = (([] : List (Prod Nat Blk)) : Heap)))) (((AV.tup [(AV.ag [(AV.i IntKind.i64 a), (AV.i IntKind.i64 b), (AV.i IntKind.i64 c), (AV.sl xs')]), (AV.i IntKind.i64 (0 : Int))]) = (v : AV)) ∧
 (([] : List (Prod Nat Blk)) = (([] : List (Prod Nat Blk)) : Heap))))))))))))))))))
theorem vChangeR_eq (u n a' b' c' : Int) (l' : List Held) (a b c : Int) (l : List Held) (m : Mom) (v : AV) : vChangeR u n a' b' c' l' a b c l m v = (evF Try.prog TQ Try.f40 [] noK [qAV a b c (rowH l), .ag m.cells, (.fn 54 [] [.pp [.i .i64 u], .pp [.i .i64 n], .pp [.i .i64 a', .i .i64 b', .i .i64 c', .sl (rowH l')]])] [] [] v []) := by kernel_rfl

def vChangeL (a b c : Int) (l : List Held) (m : Mom) (v : AV) : Prop :=
 (∃ x : Bool, ((ACalls Try.prog 13 [(AV.ag [(AV.i IntKind.i64 a), (AV.i IntKind.i64 b), (AV.i IntKind.i64 c), (AV.sl (Q.rowH l))])] ([] : List (Prod Nat Blk)) (AV.b x) ([] : List (Prod Nat Blk))) ∧
 (brP (!x) (((AV.tup [(AV.ag [(AV.i IntKind.i64 (0 : Int)), (AV.i IntKind.i64 (0 : Int)), (AV.i IntKind.i64 (0 : Int)), (AV.sl ([] : List (List AV)))]), (AV.i IntKind.i64 (1 : Int))]) = (v : AV)) ∧
 (([] : List (Prod Nat Blk)) = (([] : List (Prod Nat Blk)) : Heap))) (∃ n : Int, ((ACalls Try.prog 42 [(AV.ag [(AV.i IntKind.i64 a), (AV.i IntKind.i64 b), (AV.i IntKind.i64 c), (AV.sl (Q.rowH l))]), (AV.ag [(AV.s (m).1), (AV.s (m).2)]), (AV.i IntKind.i64 (m).3), (AV.i IntKind.i64 (m).4)] ([] : List (Prod Nat Blk)) (AV.i IntKind.i64 n) ([] : List (Prod Nat Blk))) ∧
 (brP (decide ((n : Int) < (0 : Int))) (((AV.tup [(AV.ag [(AV.i IntKind.i64 (0 : Int)), (AV.i IntKind.i64 (0 : Int)), (AV.i IntKind.i64 (0 : Int)), (AV.sl ([] : List (List AV)))]), (AV.i IntKind.i64 (18 : Int))]) = (v : AV)) ∧
 (([] : List (Prod Nat Blk)) = (([] : List (Prod Nat Blk)) : Heap))) ((ACalls Try.prog 50 [(AV.sl (Q.rowH l))] ([] : List (Prod Nat Blk)) (AV.own 0) [(0, (Blk.row 41 8 (Q.rowH l)))]) ∧
 ((((0 : Int) : Int) ≤ n) ∧
 (((n : Int) < (((List.length (Q.rowH l)) : Nat) : Int)) ∧
 (∃ b1 : Bool, (∃ n1 : Int, (∃ xs' : (List (List AV)), ((ACalls Try.prog 41 [(AV.eptr 0 8 (Int.toNat n) 0)] [(0, (Blk.row 41 8 (Q.rowH l)))] (AV.tup [(AV.b b1), (AV.i IntKind.i64 n1)]) [(0, (Blk.row 41 8 xs'))]) ∧
 (brP (!(decide (n1 = ((0 : Int) : Int)))) (((AV.tup [(AV.ag [(AV.i IntKind.i64 (0 : Int)), (AV.i IntKind.i64 (0 : Int)), (AV.i IntKind.i64 (0 : Int)), (AV.sl ([] : List (List AV)))]), (AV.i IntKind.i64 n1)]) = (v : AV)) ∧
 (([] : List (Prod Nat Blk)) = (([] : List (Prod Nat Blk)) : Heap))) (brP (!b1) ((ACalls Try.prog 68 [(AV.own 0), (AV.i IntKind.i64 n), (AV.i IntKind.i64 (IntKind.wrap IntKind.i64 (n + (1 : Int) : Int)))] [(0, (Blk.row 41 8 xs'))] (AV.own 1) [(1, (Blk.row 41 8 ((List.take (Int.toNat n) xs') ++ (List.drop (Int.toNat (IntKind.wrap IntKind.i64 (n + (1 : Int) : Int))) xs') : (List (List AV)))))]) ∧
 (((AV.tup [(AV.ag [(AV.i IntKind.i64 a), (AV.i IntKind.i64 b), (AV.i IntKind.i64 c), (AV.sl ((List.take (Int.toNat n) xs') ++ (List.drop (Int.toNat (IntKind.wrap IntKind.i64 (n + (1 : Int) : Int))) xs') : (List (List AV))))]), (AV.i IntKind.i64 (0 : Int))]) = (v : AV)) ∧
 (([] : List (Prod Nat Blk)) = (([] : List (Prod Nat Blk)) : Heap)))) (((AV.tup [(AV.ag [(AV.i IntKind.i64 a), (AV.i IntKind.i64 b), (AV.i IntKind.i64 c), (AV.sl xs')]), (AV.i IntKind.i64 (0 : Int))]) = (v : AV)) ∧
 (([] : List (Prod Nat Blk)) = (([] : List (Prod Nat Blk)) : Heap))))))))))))))))))
theorem vChangeL_eq (a b c : Int) (l : List Held) (m : Mom) (v : AV) : vChangeL a b c l m v = (evF Try.prog TQ Try.f40 [] noK [qAV a b c (rowH l), .ag m.cells, (.fn 41 [] [])] [] [] v []) := by kernel_rfl

def vChangeC (a b c : Int) (l : List Held) (m : Mom) (v : AV) : Prop :=
 (∃ x : Bool, ((ACalls Try.prog 13 [(AV.ag [(AV.i IntKind.i64 a), (AV.i IntKind.i64 b), (AV.i IntKind.i64 c), (AV.sl (Q.rowH l))])] ([] : List (Prod Nat Blk)) (AV.b x) ([] : List (Prod Nat Blk))) ∧
 (brP (!x) (((AV.tup [(AV.ag [(AV.i IntKind.i64 (0 : Int)), (AV.i IntKind.i64 (0 : Int)), (AV.i IntKind.i64 (0 : Int)), (AV.sl ([] : List (List AV)))]), (AV.i IntKind.i64 (1 : Int))]) = (v : AV)) ∧
 (([] : List (Prod Nat Blk)) = (([] : List (Prod Nat Blk)) : Heap))) (∃ n : Int, ((ACalls Try.prog 42 [(AV.ag [(AV.i IntKind.i64 a), (AV.i IntKind.i64 b), (AV.i IntKind.i64 c), (AV.sl (Q.rowH l))]), (AV.ag [(AV.s (m).1), (AV.s (m).2)]), (AV.i IntKind.i64 (m).3), (AV.i IntKind.i64 (m).4)] ([] : List (Prod Nat Blk)) (AV.i IntKind.i64 n) ([] : List (Prod Nat Blk))) ∧
 (brP (decide ((n : Int) < (0 : Int))) (((AV.tup [(AV.ag [(AV.i IntKind.i64 (0 : Int)), (AV.i IntKind.i64 (0 : Int)), (AV.i IntKind.i64 (0 : Int)), (AV.sl ([] : List (List AV)))]), (AV.i IntKind.i64 (18 : Int))]) = (v : AV)) ∧
 (([] : List (Prod Nat Blk)) = (([] : List (Prod Nat Blk)) : Heap))) ((ACalls Try.prog 50 [(AV.sl (Q.rowH l))] ([] : List (Prod Nat Blk)) (AV.own 0) [(0, (Blk.row 41 8 (Q.rowH l)))]) ∧
 ((((0 : Int) : Int) ≤ n) ∧
 (((n : Int) < (((List.length (Q.rowH l)) : Nat) : Int)) ∧
 (∃ b1 : Bool, (∃ n1 : Int, (∃ xs' : (List (List AV)), ((ACalls Try.prog 43 [(AV.eptr 0 8 (Int.toNat n) 0)] [(0, (Blk.row 41 8 (Q.rowH l)))] (AV.tup [(AV.b b1), (AV.i IntKind.i64 n1)]) [(0, (Blk.row 41 8 xs'))]) ∧
 (brP (!(decide (n1 = ((0 : Int) : Int)))) (((AV.tup [(AV.ag [(AV.i IntKind.i64 (0 : Int)), (AV.i IntKind.i64 (0 : Int)), (AV.i IntKind.i64 (0 : Int)), (AV.sl ([] : List (List AV)))]), (AV.i IntKind.i64 n1)]) = (v : AV)) ∧
 (([] : List (Prod Nat Blk)) = (([] : List (Prod Nat Blk)) : Heap))) (brP (!b1) ((ACalls Try.prog 68 [(AV.own 0), (AV.i IntKind.i64 n), (AV.i IntKind.i64 (IntKind.wrap IntKind.i64 (n + (1 : Int) : Int)))] [(0, (Blk.row 41 8 xs'))] (AV.own 1) [(1, (Blk.row 41 8 ((List.take (Int.toNat n) xs') ++ (List.drop (Int.toNat (IntKind.wrap IntKind.i64 (n + (1 : Int) : Int))) xs') : (List (List AV)))))]) ∧
 (((AV.tup [(AV.ag [(AV.i IntKind.i64 a), (AV.i IntKind.i64 b), (AV.i IntKind.i64 c), (AV.sl ((List.take (Int.toNat n) xs') ++ (List.drop (Int.toNat (IntKind.wrap IntKind.i64 (n + (1 : Int) : Int))) xs') : (List (List AV))))]), (AV.i IntKind.i64 (0 : Int))]) = (v : AV)) ∧
 (([] : List (Prod Nat Blk)) = (([] : List (Prod Nat Blk)) : Heap)))) (((AV.tup [(AV.ag [(AV.i IntKind.i64 a), (AV.i IntKind.i64 b), (AV.i IntKind.i64 c), (AV.sl xs')]), (AV.i IntKind.i64 (0 : Int))]) = (v : AV)) ∧
 (([] : List (Prod Nat Blk)) = (([] : List (Prod Nat Blk)) : Heap))))))))))))))))))
theorem vChangeC_eq (a b c : Int) (l : List Held) (m : Mom) (v : AV) : vChangeC a b c l m v = (evF Try.prog TQ Try.f40 [] noK [qAV a b c (rowH l), .ag m.cells, (.fn 43 [] [])] [] [] v []) := by kernel_rfl

def vRenew (a b c : Int) (l : List Held) (m : Mom) (u : Int) (v : AV) : Prop :=
 (∃ n : Int, (∃ n1 : Int, (∃ n2 : Int, (∃ xs : (List (List AV)), (∃ n3 : Int, ((ACalls Try.prog 40 [(AV.ag [(AV.i IntKind.i64 a), (AV.i IntKind.i64 b), (AV.i IntKind.i64 c), (AV.sl (Q.rowH l))]), (AV.ag [(AV.s (m).1), (AV.s (m).2), (AV.i IntKind.i64 (m).3), (AV.i IntKind.i64 (m).4)]), (AV.fn 54 ([] : List AV) [(AV.pp [(AV.i IntKind.i64 u)]), (AV.pp [(AV.i IntKind.i64 (m).4)]), (AV.pp [(AV.i IntKind.i64 a), (AV.i IntKind.i64 b), (AV.i IntKind.i64 c), (AV.sl (Q.rowH l))])])] ([] : List (Prod Nat Blk)) (AV.tup [(AV.ag ([(AV.i IntKind.i64 n)] ++ ([(AV.i IntKind.i64 n1)] ++ ([(AV.i IntKind.i64 n2)] ++ ([(AV.sl xs)] ++ ([] : List AV) : (List AV)) : (List AV)) : (List AV)) : (List AV))), (AV.i IntKind.i64 n3)]) ([] : List (Prod Nat Blk))) ∧
 (((AV.tup [(AV.ag [(AV.i IntKind.i64 n), (AV.i IntKind.i64 n1), (AV.i IntKind.i64 n2), (AV.sl xs)]), (AV.i IntKind.i64 n3)]) = (v : AV)) ∧
 (([] : List (Prod Nat Blk)) = (([] : List (Prod Nat Blk)) : Heap)))))))))
theorem vRenew_eq (a b c : Int) (l : List Held) (m : Mom) (u : Int) (v : AV) : vRenew a b c l m u v = (evF Try.prog TQ Try.f31 [] noK [qAV a b c (rowH l), .ag [.s m.p, .s m.t], .i .i64 m.e, .i .i64 m.now, .i .i64 u] [] [] v []) := by kernel_rfl

def vRelease (a b c : Int) (l : List Held) (m : Mom) (v : AV) : Prop :=
 (∃ n : Int, (∃ n1 : Int, (∃ n2 : Int, (∃ xs : (List (List AV)), (∃ n3 : Int, ((ACalls Try.prog 40 [(AV.ag [(AV.i IntKind.i64 a), (AV.i IntKind.i64 b), (AV.i IntKind.i64 c), (AV.sl (Q.rowH l))]), (AV.ag [(AV.s (m).1), (AV.s (m).2), (AV.i IntKind.i64 (m).3), (AV.i IntKind.i64 (m).4)]), (AV.fn 41 ([] : List AV) ([] : List AV))] ([] : List (Prod Nat Blk)) (AV.tup [(AV.ag ([(AV.i IntKind.i64 n)] ++ ([(AV.i IntKind.i64 n1)] ++ ([(AV.i IntKind.i64 n2)] ++ ([(AV.sl xs)] ++ ([] : List AV) : (List AV)) : (List AV)) : (List AV)) : (List AV))), (AV.i IntKind.i64 n3)]) ([] : List (Prod Nat Blk))) ∧
 (((AV.tup [(AV.ag [(AV.i IntKind.i64 n), (AV.i IntKind.i64 n1), (AV.i IntKind.i64 n2), (AV.sl xs)]), (AV.i IntKind.i64 n3)]) = (v : AV)) ∧
 (([] : List (Prod Nat Blk)) = (([] : List (Prod Nat Blk)) : Heap)))))))))
theorem vRelease_eq (a b c : Int) (l : List Held) (m : Mom) (v : AV) : vRelease a b c l m v = (evF Try.prog TQ Try.f19 [] noK [qAV a b c (rowH l), .ag [.s m.p, .s m.t], .i .i64 m.e, .i .i64 m.now] [] [] v []) := by kernel_rfl

def vCharge (a b c : Int) (l : List Held) (m : Mom) (v : AV) : Prop :=
 (∃ n : Int, (∃ n1 : Int, (∃ n2 : Int, (∃ xs : (List (List AV)), (∃ n3 : Int, ((ACalls Try.prog 40 [(AV.ag [(AV.i IntKind.i64 a), (AV.i IntKind.i64 b), (AV.i IntKind.i64 c), (AV.sl (Q.rowH l))]), (AV.ag [(AV.s (m).1), (AV.s (m).2), (AV.i IntKind.i64 (m).3), (AV.i IntKind.i64 (m).4)]), (AV.fn 43 ([] : List AV) ([] : List AV))] ([] : List (Prod Nat Blk)) (AV.tup [(AV.ag ([(AV.i IntKind.i64 n)] ++ ([(AV.i IntKind.i64 n1)] ++ ([(AV.i IntKind.i64 n2)] ++ ([(AV.sl xs)] ++ ([] : List AV) : (List AV)) : (List AV)) : (List AV)) : (List AV))), (AV.i IntKind.i64 n3)]) ([] : List (Prod Nat Blk))) ∧
 (((AV.tup [(AV.ag [(AV.i IntKind.i64 n), (AV.i IntKind.i64 n1), (AV.i IntKind.i64 n2), (AV.sl xs)]), (AV.i IntKind.i64 n3)]) = (v : AV)) ∧
 (([] : List (Prod Nat Blk)) = (([] : List (Prod Nat Blk)) : Heap)))))))))
theorem vCharge_eq (a b c : Int) (l : List Held) (m : Mom) (v : AV) : vCharge a b c l m v = (evF Try.prog TQ Try.f23 [] noK [qAV a b c (rowH l), .ag [.s m.p, .s m.t], .i .i64 m.e, .i .i64 m.now] [] [] v []) := by kernel_rfl

def sEx (a b c now : Int) (l le en : List Held) (j : Nat) : St := { t := [(1, .i .i64 now), (2, .ptr 0 0), (4, .ptr 1 0), (5, .sl []), (6, .i .i64 0), (7, .own 2), (8, .own 3), (16, .sl (rowH l)), (17, .i .i64 (rowH l).length), (18, .i .i64 j)], σ := [(0, .cells [.i .i64 a, .i .i64 b, .i .i64 c, .sl (rowH l)]), (1, .cells [.i .i64 0, .i .i64 0, .i .i64 0, .sl []]), (2, .row 41 8 (rowH le)), (3, .row 41 8 (rowH en))], n := 4, m := 39 }
def exC : List (Nat × (List (Nat × (Nat × Nat)) × List Nat)) := [(5, ([(7, (41, 8)), (8, (41, 8))], [1,2,4,5,6,7,8,16,17,18]))]
def vEx (a b c now : Int) (l : List Held) (I : Nat → St → Prop) (v : AV) : Prop :=
 (∃ x : Bool, ((ACalls Try.prog 13 [(AV.ag [(AV.i IntKind.i64 a), (AV.i IntKind.i64 b), (AV.i IntKind.i64 c), (AV.sl (Q.rowH l))])] ([] : List (Prod Nat Blk)) (AV.b x) ([] : List (Prod Nat Blk))) ∧
 (brP (!x) (((AV.tup [(AV.ag [(AV.i IntKind.i64 (0 : Int)), (AV.i IntKind.i64 (0 : Int)), (AV.i IntKind.i64 (0 : Int)), (AV.sl ([] : List (List AV)))]), (AV.sl ([] : List (List AV))), (AV.i IntKind.i64 (1 : Int))]) = (v : AV)) ∧
 (([] : List (Prod Nat Blk)) = (([] : List (Prod Nat Blk)) : Heap))) ((AtL (hd Try.f18 5) (hd Try.f18 5)) ∧
 (I 5 { t := [(1, (AV.i IntKind.i64 now)), (2, (AV.ptr 0 0)), (4, (AV.ptr 1 0)), (5, (AV.sl ([] : List (List AV)))), (6, (AV.i IntKind.i64 (0 : Int))), (7, (AV.own 2)), (8, (AV.own 3)), (16, (AV.sl (Q.rowH l))), (17, (AV.i IntKind.i64 (((List.length (Q.rowH l)) : Nat) : Int))), (18, (AV.i IntKind.i64 (0 : Int)))], σ := [(0, (Blk.cells [(AV.i IntKind.i64 a), (AV.i IntKind.i64 b), (AV.i IntKind.i64 c), (AV.sl (Q.rowH l))])), (1, (Blk.cells [(AV.i IntKind.i64 (0 : Int)), (AV.i IntKind.i64 (0 : Int)), (AV.i IntKind.i64 (0 : Int)), (AV.sl ([] : List (List AV)))])), (2, (Blk.row 41 8 ([] : List (List AV)))), (3, (Blk.row 41 8 ([] : List (List AV))))], n := 4, m := 39 : St})))))
theorem vEx_eq (a b c now : Int) (l : List Held) (I : Nat → St → Prop) (v : AV) : vEx a b c now l I v = (evF Try.prog TQ Try.f18 [] (cutA 0 Try.f18 exC I) [qAV a b c (rowH l), .i .i64 now] [] [] v []) := by kernel_rfl

def vExL (a b c now : Int) (l le en : List Held) (j : Nat) (I : Nat → St → Prop) (v : AV) : Prop :=
 (brP (decide ((((j : Nat) : Int) : Int) < (((List.length (Q.rowH l)) : Nat) : Int))) ((((0 : Int) : Int) ≤ ((j : Nat) : Int)) ∧
 (((((j : Nat) : Int) : Int) < (((List.length (Q.rowH l)) : Nat) : Int)) ∧
 (∃ x : ByteArray, (∃ x1 : ByteArray, (∃ n : Int, (∃ x2 : ByteArray, (∃ n1 : Int, (∃ n2 : Int, (∃ n3 : Int, (∃ n4 : Int, ((((Q.rowH l))[(Int.toNat ((j : Nat) : Int))]? = ((Option.some [(AV.s x), (AV.s x1), (AV.i IntKind.i64 n), (AV.s x2), (AV.i IntKind.i64 n1), (AV.i IntKind.i64 n2), (AV.i IntKind.i64 n3), (AV.i IntKind.i64 n4)]) : (Option (List AV)))) ∧
 (((List.length (([(AV.s x)] ++ ([(AV.s x1)] ++ ([] : List AV) : (List AV)) : (List AV)) ++ ([(AV.i IntKind.i64 n)] ++ ([(AV.s x2)] ++ ([(AV.i IntKind.i64 n1)] ++ ([(AV.i IntKind.i64 n2)] ++ ([(AV.i IntKind.i64 n3)] ++ ([(AV.i IntKind.i64 n4)] ++ ([] : List AV) : (List AV)) : (List AV)) : (List AV)) : (List AV)) : (List AV)) : (List AV)) : (List AV))) = (8 : Nat)) ∧
 (brP (decide ((n2 : Int) ≤ now)) ((((((List.length (Q.rowH en)) + 1 : Nat) * 88 : Nat) : Nat) ≤ 140737488355328) ∧
 (((((List.length (Q.rowH en)) + 1 : Nat) : Nat) ≤ 9223372036854775807) ∧
 ((∀ (y : (List AV)), ((List.Mem y [[(AV.s x), (AV.s x1), (AV.i IntKind.i64 n), (AV.s x2), (AV.i IntKind.i64 n1), (AV.i IntKind.i64 n2), (AV.i IntKind.i64 n3), (AV.i IntKind.i64 n4)]]) → ((List.length y) = (8 : Nat)))) ∧
 ((AtL (hd Try.f18 5) (hd Try.f18 5)) ∧
 (I 5 { t := [(1, (AV.i IntKind.i64 now)), (2, (AV.ptr 0 0)), (4, (AV.ptr 1 0)), (5, (AV.sl ([] : List (List AV)))), (6, (AV.i IntKind.i64 (0 : Int))), (7, (AV.own 2)), (8, (AV.own 3)), (16, (AV.sl (Q.rowH l))), (17, (AV.i IntKind.i64 (((List.length (Q.rowH l)) : Nat) : Int))), (18, (AV.i IntKind.i64 (IntKind.wrap IntKind.i64 (((j : Nat) : Int) + (1 : Int) : Int))))], σ := [(0, (Blk.cells [(AV.i IntKind.i64 a), (AV.i IntKind.i64 b), (AV.i IntKind.i64 c), (AV.sl (Q.rowH l))])), (1, (Blk.cells [(AV.i IntKind.i64 (0 : Int)), (AV.i IntKind.i64 (0 : Int)), (AV.i IntKind.i64 (0 : Int)), (AV.sl ([] : List (List AV)))])), (2, (Blk.row 41 8 (Q.rowH le))), (3, (Blk.row 41 8 ((Q.rowH en) ++ [[(AV.s x), (AV.s x1), (AV.i IntKind.i64 n), (AV.s x2), (AV.i IntKind.i64 n1), (AV.i IntKind.i64 n2), (AV.i IntKind.i64 n3), (AV.i IntKind.i64 n4)]] : (List (List AV)))))], n := 4, m := 39 : St}))))) ((((((List.length (Q.rowH le)) + 1 : Nat) * 88 : Nat) : Nat) ≤ 140737488355328) ∧
 (((((List.length (Q.rowH le)) + 1 : Nat) : Nat) ≤ 9223372036854775807) ∧
 ((∀ (y : (List AV)), ((List.Mem y [[(AV.s x), (AV.s x1), (AV.i IntKind.i64 n), (AV.s x2), (AV.i IntKind.i64 n1), (AV.i IntKind.i64 n2), (AV.i IntKind.i64 n3), (AV.i IntKind.i64 n4)]]) → ((List.length y) = (8 : Nat)))) ∧
 ((AtL (hd Try.f18 5) (hd Try.f18 5)) ∧
 (I 5 { t := [(1, (AV.i IntKind.i64 now)), (2, (AV.ptr 0 0)), (4, (AV.ptr 1 0)), (5, (AV.sl ([] : List (List AV)))), (6, (AV.i IntKind.i64 (0 : Int))), (7, (AV.own 2)), (8, (AV.own 3)), (16, (AV.sl (Q.rowH l))), (17, (AV.i IntKind.i64 (((List.length (Q.rowH l)) : Nat) : Int))), (18, (AV.i IntKind.i64 (IntKind.wrap IntKind.i64 (((j : Nat) : Int) + (1 : Int) : Int))))], σ := [(0, (Blk.cells [(AV.i IntKind.i64 a), (AV.i IntKind.i64 b), (AV.i IntKind.i64 c), (AV.sl (Q.rowH l))])), (1, (Blk.cells [(AV.i IntKind.i64 (0 : Int)), (AV.i IntKind.i64 (0 : Int)), (AV.i IntKind.i64 (0 : Int)), (AV.sl ([] : List (List AV)))])), (2, (Blk.row 41 8 ((Q.rowH le) ++ [[(AV.s x), (AV.s x1), (AV.i IntKind.i64 n), (AV.s x2), (AV.i IntKind.i64 n1), (AV.i IntKind.i64 n2), (AV.i IntKind.i64 n3), (AV.i IntKind.i64 n4)]] : (List (List AV))))), (3, (Blk.row 41 8 (Q.rowH en)))], n := 4, m := 39 : St})))))))))))))))))) (((AV.tup [(AV.ag [(AV.i IntKind.i64 a), (AV.i IntKind.i64 b), (AV.i IntKind.i64 c), (AV.sl (Q.rowH le))]), (AV.sl (Q.rowH en)), (AV.i IntKind.i64 (0 : Int))]) = (v : AV)) ∧
 (([] : List (Prod Nat Blk)) = (([] : List (Prod Nat Blk)) : Heap))))
theorem vExL_eq (a b c now : Int) (l le en : List Held) (j : Nat) (I : Nat → St → Prop) (v : AV) : vExL a b c now l le en j I v = (evL Try.prog TQ Try.f18 [] (cutA 0 Try.f18 exC I) 5 (sEx a b c now l le en j) 0 [] v []) := by kernel_rfl

end Go.AM.Q
