/- Quarantine: conditions of slices.Insert and slices.Delete on entries. -/
import Derived.Test.YthcpekjcnokonaaQE
import Derived.KernelRfl
set_option maxRecDepth 100000
set_option linter.unusedVariables false
namespace Go.AM.Q
open Go.Proofs
--BEGIN
/-- A row with k spare places. -/
def spare (xs : List (List AV)) (k : Nat) : List (List AV) := xs ++ List.replicate k (List.replicate 8 .u)
def bareR (R : AV → Heap → Nat → Prop) (v : AV) (s : St) : Prop := R v s.σ s.n
def sIn0 (xs : List (List AV)) (y : List AV) (i k : Nat) : St := { t := [(0, .fv 0 8 0 xs.length (xs.length + k)), (1, .i .i64 i), (2, .own 1)], σ := [(0, .full 41 8 (spare xs k)), (1, .row 41 8 [y])], n := 2, m := 95 }
def insC : List (Nat × (List Nat × List Nat)) := [(9, ([], [0,1,2,7,8])), (10, ([10], [0,1,2,7,9])), (11, ([2], [0,1,2,7,9])), (12, ([2], [9])), (13, ([], [0,1,2,7,8])), (14, ([], [0,1,2,7])), (15, ([], [0,1,2,7])), (16, ([], [0,1,2,7])), (17, ([], [0])), (18, ([], [0]))]
def vIns0 (xs : List (List AV)) (y : List AV) (i k : Nat) (I : Nat → St → Prop) (R : AV → Heap → Nat → Prop) : Prop :=
 ((((0 : Int) : Int) ≤ ((i : Nat) : Int)) ∧
 ((((Int.toNat ((i : Nat) : Int)) : Nat) ≤ (List.length xs)) ∧
 ((((List.length xs) : Nat) ≤ ((List.length xs) + k : Nat)) ∧
 (((((List.length xs) + k : Nat) : Nat) ≤ ((List.length xs) + k : Nat)) ∧
 (brP (decide (((i : Nat) : Int) = ((((List.length xs) : Nat) : Int) : Int))) ((∀ (y1 : (List AV)), ((List.Mem y1 [y]) → ((List.length y1) = (8 : Nat)))) ∧
 (True ∧
 (brP (decide ((((List.length xs) + 1 : Nat) : Nat) ≤ ((List.length xs) + k : Nat))) (R (AV.fv 0 8 0 ((List.length xs) + 1 : Nat) ((List.length xs) + k : Nat)) [(0, (Blk.full 41 8 (splice (Q.spare xs k) (0 + (List.length xs) : Nat) [y]))), (1, (Blk.row 41 8 [y]))] 21) ((((1 * 88 : Nat) : Nat) ≤ 140737488355328) ∧
 ((((((List.length xs) + 1 : Nat) * 88 : Nat) : Nat) ≤ 140737488355328) ∧
 (((((List.length xs) + 1 : Nat) : Nat) ≤ 9223372036854775807) ∧
 ((noU (List.take (List.length xs) (List.drop 0 (Q.spare xs k)))) ∧
 (R (AV.own 19) [(0, (Blk.full 41 8 (Q.spare xs k))), (1, (Blk.row 41 8 [y])), (19, (Blk.row 41 8 ((List.take (List.length xs) (List.drop 0 (Q.spare xs k))) ++ [y] : (List (List AV)))))] 21)))))))) (brP (decide ((((((List.length xs) + k : Nat) : Nat) : Int) : Int) < (IntKind.wrap IntKind.i64 ((((List.length xs) : Nat) : Int) + (1 : Int) : Int)))) ((AtL (hd Try.f49 9) (hd Try.f49 9)) ∧
 (I 9 { t := [(0, (AV.fv 0 8 0 (List.length xs) ((List.length xs) + k : Nat))), (1, (AV.i IntKind.i64 ((i : Nat) : Int))), (2, (AV.own 1)), (7, (AV.i IntKind.i64 (1 : Int))), (8, (AV.i IntKind.i64 (((List.length xs) : Nat) : Int)))], σ := [(0, (Blk.full 41 8 (Q.spare xs k))), (1, (Blk.row 41 8 [y]))], n := 2, m := 95 : St})) ((AtL (hd Try.f49 13) (hd Try.f49 13)) ∧
 (I 13 { t := [(0, (AV.fv 0 8 0 (List.length xs) ((List.length xs) + k : Nat))), (1, (AV.i IntKind.i64 ((i : Nat) : Int))), (2, (AV.own 1)), (7, (AV.i IntKind.i64 (1 : Int))), (8, (AV.i IntKind.i64 (((List.length xs) : Nat) : Int)))], σ := [(0, (Blk.full 41 8 (Q.spare xs k))), (1, (Blk.row 41 8 [y]))], n := 2, m := 95 : St}))))))))
theorem vIns0_eq (xs : List (List AV)) (y : List AV) (i k : Nat) (I : Nat → St → Prop) (R : AV → Heap → Nat → Prop) : vIns0 xs y i k I R = (evB Try.prog TQ Try.f49 [9,13] (cutK 2 Try.f49 insC I) (sIn0 xs y i k) (bareR R)) := by kernel_rfl

def sIn9 (n i k : Nat) (zs : List (List AV)) (y : List AV) : St := { t := [(0, .fv 0 8 0 n (n + k)), (1, .i .i64 i), (2, .own 1), (7, .i .i64 1), (8, .i .i64 n)], σ := [(0, .full 41 8 zs), (1, .row 41 8 [y])], n := 2, m := 95 }
def sIn10 (n i k : Nat) (zs ws : List (List AV)) (y : List AV) : St := { t := [(0, .fv 0 8 0 n (n + k)), (1, .i .i64 i), (2, .own 1), (7, .i .i64 1), (9, .own 2)], σ := [(0, .full 41 8 zs), (1, .row 41 8 [y]), (2, .row 41 8 ws)], n := 3, m := 95 }
def sIn12 (zs ws : List (List AV)) (y : List AV) : St := { t := [(9, .own 2)], σ := [(0, .full 41 8 zs), (1, .row 41 8 [y]), (2, .row 41 8 ws)], n := 3, m := 95 }
def sIn14 (n i c : Nat) (zs : List (List AV)) (y : List AV) : St := { t := [(0, .fv 0 8 0 n c), (1, .i .i64 i), (2, .own 1), (7, .i .i64 1)], σ := [(0, .full 41 8 zs), (1, .row 41 8 [y])], n := 2, m := 95 }
def sIn17 (n c : Nat) (zs : List (List AV)) (y : List AV) : St := { t := [(0, .fv 0 8 0 n c)], σ := [(0, .full 41 8 zs), (1, .row 41 8 [y])], n := 2, m := 95 }
def vIns9 (n i k : Nat) (zs : List (List AV)) (y : List AV) (I : Nat → St → Prop) (R : AV → Heap → Nat → Prop) : Prop :=
 ((((0 : Int) : Int) ≤ ((i : Nat) : Int)) ∧
 (((0 : Nat) ≤ (Int.toNat ((i : Nat) : Int))) ∧
 ((((Int.toNat ((i : Nat) : Int)) : Nat) ≤ (n + k : Nat)) ∧
 ((((n + k : Nat) : Nat) ≤ (n + k : Nat)) ∧
 ((((0 : Int) : Int) ≤ (IntKind.wrap IntKind.i64 ((IntKind.wrap IntKind.i64 (((n : Nat) : Int) + (1 : Int) : Int)) - ((i : Nat) : Int) : Int))) ∧
 ((((IntKind.wrap IntKind.i64 ((IntKind.wrap IntKind.i64 (((n : Nat) : Int) + (1 : Int) : Int)) - ((i : Nat) : Int) : Int)) : Int) ≤ (140737488355328 : Int)) ∧
 ((∀ (y1 : (List AV)), ((List.Mem y1 (List.replicate (Int.toNat (IntKind.wrap IntKind.i64 ((IntKind.wrap IntKind.i64 (((n : Nat) : Int) + (1 : Int) : Int)) - ((i : Nat) : Int) : Int))) [(AV.s (ByteArray.mk (List.toArray ([] : List UInt8)))), (AV.s (ByteArray.mk (List.toArray ([] : List UInt8)))), (AV.i IntKind.i64 (0 : Int)), (AV.s (ByteArray.mk (List.toArray ([] : List UInt8)))), (AV.i IntKind.i64 (0 : Int)), (AV.i IntKind.i64 (0 : Int)), (AV.i IntKind.i64 (0 : Int)), (AV.i IntKind.i64 (0 : Int))])) → ((List.length y1) = (8 : Nat)))) ∧
 ((Nat.le ((List.length (List.replicate (Int.toNat (IntKind.wrap IntKind.i64 ((IntKind.wrap IntKind.i64 (((n : Nat) : Int) + (1 : Int) : Int)) - ((i : Nat) : Int) : Int))) [(AV.s (ByteArray.mk (List.toArray ([] : List UInt8)))), (AV.s (ByteArray.mk (List.toArray ([] : List UInt8)))), (AV.i IntKind.i64 (0 : Int)), (AV.s (ByteArray.mk (List.toArray ([] : List UInt8)))), (AV.i IntKind.i64 (0 : Int)), (AV.i IntKind.i64 (0 : Int)), (AV.i IntKind.i64 (0 : Int)), (AV.i IntKind.i64 (0 : Int))])) * 88 : Nat) 140737488355328) ∧
 (brP (decide (((((Int.toNat ((i : Nat) : Int)) - 0 : Nat) + (List.length (List.replicate (Int.toNat (IntKind.wrap IntKind.i64 ((IntKind.wrap IntKind.i64 (((n : Nat) : Int) + (1 : Int) : Int)) - ((i : Nat) : Int) : Int))) [(AV.s (ByteArray.mk (List.toArray ([] : List UInt8)))), (AV.s (ByteArray.mk (List.toArray ([] : List UInt8)))), (AV.i IntKind.i64 (0 : Int)), (AV.s (ByteArray.mk (List.toArray ([] : List UInt8)))), (AV.i IntKind.i64 (0 : Int)), (AV.i IntKind.i64 (0 : Int)), (AV.i IntKind.i64 (0 : Int)), (AV.i IntKind.i64 (0 : Int))])) : Nat) : Nat) ≤ ((n + k : Nat) - 0 : Nat))) ((AtL (hd Try.f49 10) (hd Try.f49 10)) ∧
 (I 10 { t := [(0, (AV.fv 0 8 0 n (n + k : Nat))), (1, (AV.i IntKind.i64 ((i : Nat) : Int))), (2, (AV.own 1)), (7, (AV.i IntKind.i64 (1 : Int))), (9, (AV.fv 0 8 0 (((Int.toNat ((i : Nat) : Int)) - 0 : Nat) + (List.length (List.replicate (Int.toNat (IntKind.wrap IntKind.i64 ((IntKind.wrap IntKind.i64 (((n : Nat) : Int) + (1 : Int) : Int)) - ((i : Nat) : Int) : Int))) [(AV.s (ByteArray.mk (List.toArray ([] : List UInt8)))), (AV.s (ByteArray.mk (List.toArray ([] : List UInt8)))), (AV.i IntKind.i64 (0 : Int)), (AV.s (ByteArray.mk (List.toArray ([] : List UInt8)))), (AV.i IntKind.i64 (0 : Int)), (AV.i IntKind.i64 (0 : Int)), (AV.i IntKind.i64 (0 : Int)), (AV.i IntKind.i64 (0 : Int))])) : Nat) ((n + k : Nat) - 0 : Nat)))], σ := [(0, (Blk.full 41 8 (splice zs (0 + ((Int.toNat ((i : Nat) : Int)) - 0 : Nat) : Nat) (List.replicate (Int.toNat (IntKind.wrap IntKind.i64 ((IntKind.wrap IntKind.i64 (((n : Nat) : Int) + (1 : Int) : Int)) - ((i : Nat) : Int) : Int))) [(AV.s (ByteArray.mk (List.toArray ([] : List UInt8)))), (AV.s (ByteArray.mk (List.toArray ([] : List UInt8)))), (AV.i IntKind.i64 (0 : Int)), (AV.s (ByteArray.mk (List.toArray ([] : List UInt8)))), (AV.i IntKind.i64 (0 : Int)), (AV.i IntKind.i64 (0 : Int)), (AV.i IntKind.i64 (0 : Int)), (AV.i IntKind.i64 (0 : Int))])))), (1, (Blk.row 41 8 [y]))], n := 3, m := 95 : St})) (((((List.length (List.replicate (Int.toNat (IntKind.wrap IntKind.i64 ((IntKind.wrap IntKind.i64 (((n : Nat) : Int) + (1 : Int) : Int)) - ((i : Nat) : Int) : Int))) [(AV.s (ByteArray.mk (List.toArray ([] : List UInt8)))), (AV.s (ByteArray.mk (List.toArray ([] : List UInt8)))), (AV.i IntKind.i64 (0 : Int)), (AV.s (ByteArray.mk (List.toArray ([] : List UInt8)))), (AV.i IntKind.i64 (0 : Int)), (AV.i IntKind.i64 (0 : Int)), (AV.i IntKind.i64 (0 : Int)), (AV.i IntKind.i64 (0 : Int))])) * 88 : Nat) : Nat) ≤ 140737488355328) ∧
 (((((((Int.toNat ((i : Nat) : Int)) - 0 : Nat) + (List.length (List.replicate (Int.toNat (IntKind.wrap IntKind.i64 ((IntKind.wrap IntKind.i64 (((n : Nat) : Int) + (1 : Int) : Int)) - ((i : Nat) : Int) : Int))) [(AV.s (ByteArray.mk (List.toArray ([] : List UInt8)))), (AV.s (ByteArray.mk (List.toArray ([] : List UInt8)))), (AV.i IntKind.i64 (0 : Int)), (AV.s (ByteArray.mk (List.toArray ([] : List UInt8)))), (AV.i IntKind.i64 (0 : Int)), (AV.i IntKind.i64 (0 : Int)), (AV.i IntKind.i64 (0 : Int)), (AV.i IntKind.i64 (0 : Int))])) : Nat) * 88 : Nat) : Nat) ≤ 140737488355328) ∧
 ((((((Int.toNat ((i : Nat) : Int)) - 0 : Nat) + (List.length (List.replicate (Int.toNat (IntKind.wrap IntKind.i64 ((IntKind.wrap IntKind.i64 (((n : Nat) : Int) + (1 : Int) : Int)) - ((i : Nat) : Int) : Int))) [(AV.s (ByteArray.mk (List.toArray ([] : List UInt8)))), (AV.s (ByteArray.mk (List.toArray ([] : List UInt8)))), (AV.i IntKind.i64 (0 : Int)), (AV.s (ByteArray.mk (List.toArray ([] : List UInt8)))), (AV.i IntKind.i64 (0 : Int)), (AV.i IntKind.i64 (0 : Int)), (AV.i IntKind.i64 (0 : Int)), (AV.i IntKind.i64 (0 : Int))])) : Nat) : Nat) ≤ 9223372036854775807) ∧
 ((noU (List.take ((Int.toNat ((i : Nat) : Int)) - 0 : Nat) (List.drop 0 zs))) ∧
 ((AtL (hd Try.f49 10) (hd Try.f49 10)) ∧
 (I 10 { t := [(0, (AV.fv 0 8 0 n (n + k : Nat))), (1, (AV.i IntKind.i64 ((i : Nat) : Int))), (2, (AV.own 1)), (7, (AV.i IntKind.i64 (1 : Int))), (9, (AV.own 2))], σ := [(0, (Blk.full 41 8 zs)), (1, (Blk.row 41 8 [y])), (2, (Blk.row 41 8 ((List.take ((Int.toNat ((i : Nat) : Int)) - 0 : Nat) (List.drop 0 zs)) ++ (List.replicate (Int.toNat (IntKind.wrap IntKind.i64 ((IntKind.wrap IntKind.i64 (((n : Nat) : Int) + (1 : Int) : Int)) - ((i : Nat) : Int) : Int))) [(AV.s (ByteArray.mk (List.toArray ([] : List UInt8)))), (AV.s (ByteArray.mk (List.toArray ([] : List UInt8)))), (AV.i IntKind.i64 (0 : Int)), (AV.s (ByteArray.mk (List.toArray ([] : List UInt8)))), (AV.i IntKind.i64 (0 : Int)), (AV.i IntKind.i64 (0 : Int)), (AV.i IntKind.i64 (0 : Int)), (AV.i IntKind.i64 (0 : Int))]) : (List (List AV)))))], n := 3, m := 95 : St})))))))))))))))
theorem vIns9_eq (n i k : Nat) (zs : List (List AV)) (y : List AV) (I : Nat → St → Prop) (R : AV → Heap → Nat → Prop) : vIns9 n i k zs y I R = (evH Try.prog TQ Try.f49 [10] (cutK 2 Try.f49 insC I) 9 (sIn9 n i k zs y) (bareR R)) := by kernel_rfl

def vIns10 (n i k : Nat) (zs ws : List (List AV)) (y : List AV) (I : Nat → St → Prop) (R : AV → Heap → Nat → Prop) : Prop :=
 ((((0 : Int) : Int) ≤ ((i : Nat) : Int)) ∧
 (((((i : Nat) : Int) : Int) ≤ (((List.length ws) : Nat) : Int)) ∧
 ((∀ (y1 : (List AV)), ((List.Mem y1 (List.take ((List.length ws) - (Int.toNat ((i : Nat) : Int)) : Nat) [y])) → ((List.length y1) = (8 : Nat)))) ∧
 ((AtL (hd Try.f49 11) (hd Try.f49 11)) ∧
 (I 11 { t := [(0, (AV.fv 0 8 0 n (n + k : Nat))), (1, (AV.i IntKind.i64 ((i : Nat) : Int))), (2, (AV.own 1)), (7, (AV.i IntKind.i64 (1 : Int))), (9, (AV.own 2))], σ := [(0, (Blk.full 41 8 zs)), (1, (Blk.row 41 8 [y])), (2, (Blk.row 41 8 (splice ws (Int.toNat ((i : Nat) : Int)) (List.take ((List.length ws) - (Int.toNat ((i : Nat) : Int)) : Nat) [y]))))], n := 3, m := 95 : St})))))
theorem vIns10_eq (n i k : Nat) (zs ws : List (List AV)) (y : List AV) (I : Nat → St → Prop) (R : AV → Heap → Nat → Prop) : vIns10 n i k zs ws y I R = (evH Try.prog TQ Try.f49 [11] (cutK 2 Try.f49 insC I) 10 (sIn10 n i k zs ws y) (bareR R)) := by kernel_rfl

def vIns11 (n i k : Nat) (zs ws : List (List AV)) (y : List AV) (I : Nat → St → Prop) (R : AV → Heap → Nat → Prop) : Prop :=
 ((((0 : Int) : Int) ≤ (IntKind.wrap IntKind.i64 (((i : Nat) : Int) + (1 : Int) : Int))) ∧
 ((((IntKind.wrap IntKind.i64 (((i : Nat) : Int) + (1 : Int) : Int)) : Int) ≤ (((List.length ws) : Nat) : Int)) ∧
 ((((0 : Int) : Int) ≤ ((i : Nat) : Int)) ∧
 ((((Int.toNat ((i : Nat) : Int)) : Nat) ≤ n) ∧
 (((n : Nat) ≤ (n + k : Nat)) ∧
 ((((n + k : Nat) : Nat) ≤ (n + k : Nat)) ∧
 ((noU (List.take (Min.min (n - (Int.toNat ((i : Nat) : Int)) : Nat) ((List.length ws) - (Int.toNat (IntKind.wrap IntKind.i64 (((i : Nat) : Int) + (1 : Int) : Int))) : Nat)) (List.drop (0 + (Int.toNat ((i : Nat) : Int)) : Nat) zs))) ∧
 ((∀ (y1 : (List AV)), ((List.Mem y1 (List.take (Min.min (n - (Int.toNat ((i : Nat) : Int)) : Nat) ((List.length ws) - (Int.toNat (IntKind.wrap IntKind.i64 (((i : Nat) : Int) + (1 : Int) : Int))) : Nat)) (List.drop (0 + (Int.toNat ((i : Nat) : Int)) : Nat) zs))) → ((List.length y1) = (8 : Nat)))) ∧
 ((Bool.true = (Bool.true : Bool)) ∧
 ((AtL (hd Try.f49 12) (hd Try.f49 12)) ∧
 (I 12 { t := [(9, (AV.own 2))], σ := [(0, (Blk.full 41 8 zs)), (1, (Blk.row 41 8 [y])), (2, (Blk.row 41 8 (splice ws (Int.toNat (IntKind.wrap IntKind.i64 (((i : Nat) : Int) + (1 : Int) : Int))) (List.take (Min.min (n - (Int.toNat ((i : Nat) : Int)) : Nat) ((List.length ws) - (Int.toNat (IntKind.wrap IntKind.i64 (((i : Nat) : Int) + (1 : Int) : Int))) : Nat)) (List.drop (0 + (Int.toNat ((i : Nat) : Int)) : Nat) zs)))))], n := 3, m := 95 : St})))))))))))
theorem vIns11_eq (n i k : Nat) (zs ws : List (List AV)) (y : List AV) (I : Nat → St → Prop) (R : AV → Heap → Nat → Prop) : vIns11 n i k zs ws y I R = (evH Try.prog TQ Try.f49 [12] (cutK 2 Try.f49 insC I) 11 (sIn10 n i k zs ws y) (bareR R)) := by kernel_rfl

def vIns12 (zs ws : List (List AV)) (y : List AV) (I : Nat → St → Prop) (R : AV → Heap → Nat → Prop) : Prop :=
 (R (AV.own 2) [(0, (Blk.full 41 8 zs)), (1, (Blk.row 41 8 [y])), (2, (Blk.row 41 8 ws))] 5)
theorem vIns12_eq (zs ws : List (List AV)) (y : List AV) (I : Nat → St → Prop) (R : AV → Heap → Nat → Prop) : vIns12 zs ws y I R = (evH Try.prog TQ Try.f49 [] (cutK 2 Try.f49 insC I) 12 (sIn12 zs ws y) (bareR R)) := by kernel_rfl

def vIns13 (n i k : Nat) (zs : List (List AV)) (y : List AV) (I : Nat → St → Prop) (R : AV → Heap → Nat → Prop) : Prop :=
 ((((0 : Int) : Int) ≤ (IntKind.wrap IntKind.i64 (((n : Nat) : Int) + (1 : Int) : Int))) ∧
 (((0 : Nat) ≤ (Int.toNat (IntKind.wrap IntKind.i64 (((n : Nat) : Int) + (1 : Int) : Int)))) ∧
 ((((Int.toNat (IntKind.wrap IntKind.i64 (((n : Nat) : Int) + (1 : Int) : Int))) : Nat) ≤ (n + k : Nat)) ∧
 ((((n + k : Nat) : Nat) ≤ (n + k : Nat)) ∧
 ((AtL (hd Try.f49 14) (hd Try.f49 14)) ∧
 (I 14 { t := [(0, (AV.fv 0 8 0 ((Int.toNat (IntKind.wrap IntKind.i64 (((n : Nat) : Int) + (1 : Int) : Int))) - 0 : Nat) ((n + k : Nat) - 0 : Nat))), (1, (AV.i IntKind.i64 ((i : Nat) : Int))), (2, (AV.own 1)), (7, (AV.i IntKind.i64 (1 : Int)))], σ := [(0, (Blk.full 41 8 zs)), (1, (Blk.row 41 8 [y]))], n := 2, m := 95 : St}))))))
theorem vIns13_eq (n i k : Nat) (zs : List (List AV)) (y : List AV) (I : Nat → St → Prop) (R : AV → Heap → Nat → Prop) : vIns13 n i k zs y I R = (evH Try.prog TQ Try.f49 [14] (cutK 2 Try.f49 insC I) 13 (sIn9 n i k zs y) (bareR R)) := by kernel_rfl

def vIns14 (n i c : Nat) (zs : List (List AV)) (y : List AV) (I : Nat → St → Prop) (R : AV → Heap → Nat → Prop) : Prop :=
 ((((0 : Int) : Int) ≤ (IntKind.wrap IntKind.i64 (((i : Nat) : Int) + (1 : Int) : Int))) ∧
 ((((Int.toNat (IntKind.wrap IntKind.i64 (((i : Nat) : Int) + (1 : Int) : Int))) : Nat) ≤ n) ∧
 (((n : Nat) ≤ c) ∧
 (((c : Nat) ≤ c) ∧
 (∃ x : Bool, ((NCalls Try.prog 72 ((([] : List AV) ++ [(AV.own 1), (AV.fv 0 8 (0 + (Int.toNat (IntKind.wrap IntKind.i64 (((i : Nat) : Int) + (1 : Int) : Int))) : Nat) (n - (Int.toNat (IntKind.wrap IntKind.i64 (((i : Nat) : Int) + (1 : Int) : Int))) : Nat) (c - (Int.toNat (IntKind.wrap IntKind.i64 (((i : Nat) : Int) + (1 : Int) : Int))) : Nat))] : (List AV)) ++ ([] : List AV) : (List AV)) (restr [1, 0] [(0, (Blk.full 41 8 zs)), (1, (Blk.row 41 8 [y]))]) (AV.b x)) ∧
 (brP (!x) ((AtL (hd Try.f49 15) (hd Try.f49 15)) ∧
 (I 15 { t := [(0, (AV.fv 0 8 0 n c)), (1, (AV.i IntKind.i64 ((i : Nat) : Int))), (2, (AV.own 1)), (7, (AV.i IntKind.i64 (1 : Int)))], σ := [(0, (Blk.full 41 8 zs)), (1, (Blk.row 41 8 [y]))], n := 2, m := 95 : St})) ((AtL (hd Try.f49 18) (hd Try.f49 18)) ∧
 (I 18 { t := [(0, (AV.fv 0 8 0 n c))], σ := [(0, (Blk.full 41 8 zs)), (1, (Blk.row 41 8 [y]))], n := 2, m := 95 : St})))))))))
theorem vIns14_eq (n i c : Nat) (zs : List (List AV)) (y : List AV) (I : Nat → St → Prop) (R : AV → Heap → Nat → Prop) : vIns14 n i c zs y I R = (evH Try.prog TQ Try.f49 [15,18] (cutK 2 Try.f49 insC I) 14 (sIn14 n i c zs y) (bareR R)) := by kernel_rfl

def vIns15 (n i c : Nat) (zs : List (List AV)) (y : List AV) (I : Nat → St → Prop) (R : AV → Heap → Nat → Prop) : Prop :=
 ((((0 : Int) : Int) ≤ (IntKind.wrap IntKind.i64 (((i : Nat) : Int) + (1 : Int) : Int))) ∧
 ((((Int.toNat (IntKind.wrap IntKind.i64 (((i : Nat) : Int) + (1 : Int) : Int))) : Nat) ≤ n) ∧
 (((n : Nat) ≤ c) ∧
 (((c : Nat) ≤ c) ∧
 ((((0 : Int) : Int) ≤ ((i : Nat) : Int)) ∧
 ((((Int.toNat ((i : Nat) : Int)) : Nat) ≤ n) ∧
 (((n : Nat) ≤ c) ∧
 (((c : Nat) ≤ c) ∧
 ((noU (List.take (Min.min (n - (Int.toNat ((i : Nat) : Int)) : Nat) (n - (Int.toNat (IntKind.wrap IntKind.i64 (((i : Nat) : Int) + (1 : Int) : Int))) : Nat)) (List.drop (0 + (Int.toNat ((i : Nat) : Int)) : Nat) zs))) ∧
 ((∀ (y1 : (List AV)), ((List.Mem y1 (List.take (Min.min (n - (Int.toNat ((i : Nat) : Int)) : Nat) (n - (Int.toNat (IntKind.wrap IntKind.i64 (((i : Nat) : Int) + (1 : Int) : Int))) : Nat)) (List.drop (0 + (Int.toNat ((i : Nat) : Int)) : Nat) zs))) → ((List.length y1) = (8 : Nat)))) ∧
 ((Bool.true = (Bool.true : Bool)) ∧
 ((AtL (hd Try.f49 16) (hd Try.f49 16)) ∧
 (I 16 { t := [(0, (AV.fv 0 8 0 n c)), (1, (AV.i IntKind.i64 ((i : Nat) : Int))), (2, (AV.own 1)), (7, (AV.i IntKind.i64 (1 : Int)))], σ := [(0, (Blk.full 41 8 (splice zs (0 + (Int.toNat (IntKind.wrap IntKind.i64 (((i : Nat) : Int) + (1 : Int) : Int))) : Nat) (List.take (Min.min (n - (Int.toNat ((i : Nat) : Int)) : Nat) (n - (Int.toNat (IntKind.wrap IntKind.i64 (((i : Nat) : Int) + (1 : Int) : Int))) : Nat)) (List.drop (0 + (Int.toNat ((i : Nat) : Int)) : Nat) zs))))), (1, (Blk.row 41 8 [y]))], n := 2, m := 95 : St})))))))))))))
theorem vIns15_eq (n i c : Nat) (zs : List (List AV)) (y : List AV) (I : Nat → St → Prop) (R : AV → Heap → Nat → Prop) : vIns15 n i c zs y I R = (evH Try.prog TQ Try.f49 [16] (cutK 2 Try.f49 insC I) 15 (sIn14 n i c zs y) (bareR R)) := by kernel_rfl

def vIns16 (n i c : Nat) (zs : List (List AV)) (y : List AV) (I : Nat → St → Prop) (R : AV → Heap → Nat → Prop) : Prop :=
 ((((0 : Int) : Int) ≤ ((i : Nat) : Int)) ∧
 ((((Int.toNat ((i : Nat) : Int)) : Nat) ≤ n) ∧
 (((n : Nat) ≤ c) ∧
 (((c : Nat) ≤ c) ∧
 ((∀ (y1 : (List AV)), ((List.Mem y1 (List.take (n - (Int.toNat ((i : Nat) : Int)) : Nat) [y])) → ((List.length y1) = (8 : Nat)))) ∧
 ((AtL (hd Try.f49 17) (hd Try.f49 17)) ∧
 (I 17 { t := [(0, (AV.fv 0 8 0 n c))], σ := [(0, (Blk.full 41 8 (splice zs (0 + (Int.toNat ((i : Nat) : Int)) : Nat) (List.take (n - (Int.toNat ((i : Nat) : Int)) : Nat) [y])))), (1, (Blk.row 41 8 [y]))], n := 2, m := 95 : St})))))))
theorem vIns16_eq (n i c : Nat) (zs : List (List AV)) (y : List AV) (I : Nat → St → Prop) (R : AV → Heap → Nat → Prop) : vIns16 n i c zs y I R = (evH Try.prog TQ Try.f49 [17] (cutK 2 Try.f49 insC I) 16 (sIn14 n i c zs y) (bareR R)) := by kernel_rfl

def vIns17 (n c : Nat) (zs : List (List AV)) (y : List AV) (I : Nat → St → Prop) (R : AV → Heap → Nat → Prop) : Prop :=
 (R (AV.fv 0 8 0 n c) [(0, (Blk.full 41 8 zs)), (1, (Blk.row 41 8 [y]))] 4)
theorem vIns17_eq (n c : Nat) (zs : List (List AV)) (y : List AV) (I : Nat → St → Prop) (R : AV → Heap → Nat → Prop) : vIns17 n c zs y I R = (evH Try.prog TQ Try.f49 [] (cutK 2 Try.f49 insC I) 17 (sIn17 n c zs y) (bareR R)) := by kernel_rfl

def vInsE (xs : List (List AV)) (y : List AV) (i : Nat) (I : Nat → St → Prop) (R : AV → Heap → Nat → Prop) : Prop :=
 ((((0 : Int) : Int) ≤ ((i : Nat) : Int)) ∧
 (((((i : Nat) : Int) : Int) ≤ (((List.length xs) : Nat) : Int)) ∧
 (brP (decide (((i : Nat) : Int) = ((((List.length xs) : Nat) : Int) : Int))) ((((((List.length xs) + 1 : Nat) * 88 : Nat) : Nat) ≤ 140737488355328) ∧
 (((((List.length xs) + 1 : Nat) : Nat) ≤ 9223372036854775807) ∧
 ((∀ (y1 : (List AV)), ((List.Mem y1 [y]) → ((List.length y1) = (8 : Nat)))) ∧
 (R (AV.own 19) [(1, (Blk.row 41 8 [y])), (19, (Blk.row 41 8 (xs ++ [y] : (List (List AV)))))] 21)))) (I 8 { t := ([] : List (Prod Nat AV)), σ := ([] : List (Prod Nat Blk)), n := 17, m := 95 : St}))))
theorem vInsE_eq (xs : List (List AV)) (y : List AV) (i : Nat) (I : Nat → St → Prop) (R : AV → Heap → Nat → Prop) : vInsE xs y i I R = (evB Try.prog TQ Try.f49 [8] (fun _ s => I 8 { s with t := [], σ := [] }) { t := [(0, .own 0), (1, .i .i64 i), (2, .own 1)], σ := [(0, .row 41 8 xs), (1, .row 41 8 [y])], n := 2, m := 95 } (bareR R)) := by kernel_rfl

def sDel0 (xs : List (List AV)) (i j k : Nat) : St := { t := [(0, .fv 0 8 0 xs.length (xs.length + k)), (1, .i .i64 i), (2, .i .i64 j)], σ := [(0, .full 41 8 (spare xs k))], n := 1, m := 33 }
def sDel5 (n c i j : Nat) (zs : List (List AV)) : St := { t := [(0, .fv 0 8 0 n c), (1, .i .i64 i), (2, .i .i64 j), (7, .i .i64 n)], σ := [(0, .full 41 8 zs)], n := 1, m := 33 }
def sDel6 (n c m : Nat) (zs : List (List AV)) : St := { t := [(0, .fv 0 8 0 m c), (7, .i .i64 n)], σ := [(0, .full 41 8 zs)], n := 1, m := 33 }
def delC : List (Nat × (List Nat × List Nat)) := [(5, ([], [0,1,2,7])), (6, ([], [0,7])), (7, ([], [0]))]
def vDel0 (xs : List (List AV)) (i j k : Nat) (I : Nat → St → Prop) (R : AV → Heap → Nat → Prop) : Prop :=
 ((((0 : Int) : Int) ≤ ((i : Nat) : Int)) ∧
 ((((0 : Int) : Int) ≤ ((j : Nat) : Int)) ∧
 ((((0 : Int) : Int) ≤ (((List.length xs) : Nat) : Int)) ∧
 ((((Int.toNat ((i : Nat) : Int)) : Nat) ≤ (Int.toNat ((j : Nat) : Int))) ∧
 ((((Int.toNat ((j : Nat) : Int)) : Nat) ≤ (Int.toNat (((List.length xs) : Nat) : Int))) ∧
 ((((Int.toNat (((List.length xs) : Nat) : Int)) : Nat) ≤ ((List.length xs) + k : Nat)) ∧
 (brP (decide (((i : Nat) : Int) = (((j : Nat) : Int) : Int))) (R (AV.fv 0 8 0 (List.length xs) ((List.length xs) + k : Nat)) [(0, (Blk.full 41 8 (Q.spare xs k)))] 13) ((AtL (hd Try.f68 5) (hd Try.f68 5)) ∧
 (I 5 { t := [(0, (AV.fv 0 8 0 (List.length xs) ((List.length xs) + k : Nat))), (1, (AV.i IntKind.i64 ((i : Nat) : Int))), (2, (AV.i IntKind.i64 ((j : Nat) : Int))), (7, (AV.i IntKind.i64 (((List.length xs) : Nat) : Int)))], σ := [(0, (Blk.full 41 8 (Q.spare xs k)))], n := 1, m := 33 : St})))))))))
theorem vDel0_eq (xs : List (List AV)) (i j k : Nat) (I : Nat → St → Prop) (R : AV → Heap → Nat → Prop) : vDel0 xs i j k I R = (evB Try.prog TQ Try.f68 [5] (cutK 1 Try.f68 delC I) (sDel0 xs i j k) (bareR R)) := by kernel_rfl

def vDel5 (n c i j : Nat) (zs : List (List AV)) (I : Nat → St → Prop) (R : AV → Heap → Nat → Prop) : Prop :=
 ((((0 : Int) : Int) ≤ ((i : Nat) : Int)) ∧
 (((0 : Nat) ≤ (Int.toNat ((i : Nat) : Int))) ∧
 ((((Int.toNat ((i : Nat) : Int)) : Nat) ≤ c) ∧
 (((c : Nat) ≤ c) ∧
 ((((0 : Int) : Int) ≤ ((j : Nat) : Int)) ∧
 ((((Int.toNat ((j : Nat) : Int)) : Nat) ≤ n) ∧
 (((n : Nat) ≤ c) ∧
 (((c : Nat) ≤ c) ∧
 ((noU (List.take (n - (Int.toNat ((j : Nat) : Int)) : Nat) (List.drop (0 + (Int.toNat ((j : Nat) : Int)) : Nat) zs))) ∧
 ((∀ (y : (List AV)), ((List.Mem y (List.take (n - (Int.toNat ((j : Nat) : Int)) : Nat) (List.drop (0 + (Int.toNat ((j : Nat) : Int)) : Nat) zs))) → ((List.length y) = (8 : Nat)))) ∧
 (True ∧
 (brP (decide (((((Int.toNat ((i : Nat) : Int)) - 0 : Nat) + (List.length (List.take (n - (Int.toNat ((j : Nat) : Int)) : Nat) (List.drop (0 + (Int.toNat ((j : Nat) : Int)) : Nat) zs))) : Nat) : Nat) ≤ (c - 0 : Nat))) ((Bool.true = (Bool.true : Bool)) ∧
 ((AtL (hd Try.f68 6) (hd Try.f68 6)) ∧
 (I 6 { t := [(0, (AV.fv 0 8 0 (((Int.toNat ((i : Nat) : Int)) - 0 : Nat) + (List.length (List.take (n - (Int.toNat ((j : Nat) : Int)) : Nat) (List.drop (0 + (Int.toNat ((j : Nat) : Int)) : Nat) zs))) : Nat) (c - 0 : Nat))), (7, (AV.i IntKind.i64 ((n : Nat) : Int)))], σ := [(0, (Blk.full 41 8 (splice zs (0 + ((Int.toNat ((i : Nat) : Int)) - 0 : Nat) : Nat) (List.take (n - (Int.toNat ((j : Nat) : Int)) : Nat) (List.drop (0 + (Int.toNat ((j : Nat) : Int)) : Nat) zs)))))], n := 1, m := 33 : St}))) (((((List.length (List.take (n - (Int.toNat ((j : Nat) : Int)) : Nat) (List.drop (0 + (Int.toNat ((j : Nat) : Int)) : Nat) zs))) * 88 : Nat) : Nat) ≤ 140737488355328) ∧
 (((((((Int.toNat ((i : Nat) : Int)) - 0 : Nat) + (List.length (List.take (n - (Int.toNat ((j : Nat) : Int)) : Nat) (List.drop (0 + (Int.toNat ((j : Nat) : Int)) : Nat) zs))) : Nat) * 88 : Nat) : Nat) ≤ 140737488355328) ∧
 ((((((Int.toNat ((i : Nat) : Int)) - 0 : Nat) + (List.length (List.take (n - (Int.toNat ((j : Nat) : Int)) : Nat) (List.drop (0 + (Int.toNat ((j : Nat) : Int)) : Nat) zs))) : Nat) : Nat) ≤ 9223372036854775807) ∧
 ((noU (List.take ((Int.toNat ((i : Nat) : Int)) - 0 : Nat) (List.drop 0 zs))) ∧
 ((Bool.true = (Bool.true : Bool)) ∧
 ((AtL (hd Try.f68 6) (hd Try.f68 6)) ∧
 (I 6 { t := [(0, (AV.sl ((List.take ((Int.toNat ((i : Nat) : Int)) - 0 : Nat) (List.drop 0 zs)) ++ (List.take (n - (Int.toNat ((j : Nat) : Int)) : Nat) (List.drop (0 + (Int.toNat ((j : Nat) : Int)) : Nat) zs)) : (List (List AV))))), (7, (AV.i IntKind.i64 ((n : Nat) : Int)))], σ := [(0, (Blk.full 41 8 zs))], n := 1, m := 33 : St})))))))))))))))))))
theorem vDel5_eq (n c i j : Nat) (zs : List (List AV)) (I : Nat → St → Prop) (R : AV → Heap → Nat → Prop) : vDel5 n c i j zs I R = (evH Try.prog TQ Try.f68 [6] (cutK 1 Try.f68 delC I) 5 (sDel5 n c i j zs) (bareR R)) := by kernel_rfl

def vDel6 (n c m : Nat) (zs : List (List AV)) (I : Nat → St → Prop) (R : AV → Heap → Nat → Prop) : Prop :=
 ((((0 : Int) : Int) ≤ ((m : Nat) : Int)) ∧
 ((((0 : Int) : Int) ≤ ((n : Nat) : Int)) ∧
 ((((Int.toNat ((m : Nat) : Int)) : Nat) ≤ (Int.toNat ((n : Nat) : Int))) ∧
 ((((Int.toNat ((n : Nat) : Int)) : Nat) ≤ c) ∧
 (((c : Nat) ≤ c) ∧
 (R (AV.fv 0 8 0 m c) [(0, (Blk.full 41 8 (splice zs (0 + (Int.toNat ((m : Nat) : Int)) : Nat) (List.replicate ((Int.toNat ((n : Nat) : Int)) - (Int.toNat ((m : Nat) : Int)) : Nat) [(AV.s (ByteArray.mk (List.toArray ([] : List UInt8)))), (AV.s (ByteArray.mk (List.toArray ([] : List UInt8)))), (AV.i IntKind.i64 (0 : Int)), (AV.s (ByteArray.mk (List.toArray ([] : List UInt8)))), (AV.i IntKind.i64 (0 : Int)), (AV.i IntKind.i64 (0 : Int)), (AV.i IntKind.i64 (0 : Int)), (AV.i IntKind.i64 (0 : Int))]))))] 9))))))
theorem vDel6_eq (n c m : Nat) (zs : List (List AV)) (I : Nat → St → Prop) (R : AV → Heap → Nat → Prop) : vDel6 n c m zs I R = (evH Try.prog TQ Try.f68 [] noK 6 (sDel6 n c m zs) (bareR R)) := by kernel_rfl

end Go.AM.Q
