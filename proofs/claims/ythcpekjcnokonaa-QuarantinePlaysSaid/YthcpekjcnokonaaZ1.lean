/- Quarantine: conditions of the small functions, laid by program. Quarantine: contracts of the small functions. Quarantine: conditions of more functions, laid by program. Quarantine: contracts of entries, names and comparisons. Quarantine: cmp.Or and the order of entries. Quarantine: conditions of comparing lists and quarantines. Quarantine: comparing lists and quarantines (the reference's own comparison). Quarantine: the order of entries. Quarantine: conditions of Check. Quarantine: Check. -/
import Derived.Test.YthcpekjcnokonaaProg
import Derived.Test.YthcpekjcnokonaaAm23
import Derived.KernelRfl
import Derived.Test.YthcpekjcnokonaaAm27
set_option maxRecDepth 100000
set_option linter.unusedVariables false
namespace Go.AM.Q
open Go.Proofs
--BEGIN
def T0 : Nat → Option CSpec := fun _ => none
def vUsable (x y : ByteArray) (v : AV) : Prop :=
 (brP (!(strEq x (ByteArray.mk (Array.mk ([] : List UInt8))))) (brP (decide (((((ByteArray.size x) : Nat) : Int) : Int) ≤ (24 : Int))) (brP (!(strEq y (ByteArray.mk (Array.mk ([] : List UInt8))))) (((AV.b (decide (((((ByteArray.size y) : Nat) : Int) : Int) ≤ (24 : Int)))) = (v : AV)) ∧
 (([] : List (Prod Nat Blk)) = (([] : List (Prod Nat Blk)) : Heap))) (((AV.b Bool.false) = (v : AV)) ∧
 (([] : List (Prod Nat Blk)) = (([] : List (Prod Nat Blk)) : Heap)))) (((AV.b Bool.false) = (v : AV)) ∧
 (([] : List (Prod Nat Blk)) = (([] : List (Prod Nat Blk)) : Heap)))) (((AV.b Bool.false) = (v : AV)) ∧
 (([] : List (Prod Nat Blk)) = (([] : List (Prod Nat Blk)) : Heap))))
theorem vUsable_eq (x y : ByteArray) (v : AV) : vUsable x y v = (evF Try.prog T0 Try.f79 [] noK [.ag [.s x, .s y]] [] [] v []) := by kernel_rfl

def vOr (xs : List Int) (I : St → Prop) (v : AV) : Prop :=
 ((AtL (hd Try.f51 (3 : Nat)) (hd Try.f51 (3 : Nat))) ∧
 (I { t := [(0, (AV.sl (List.map (fun (n : Int) => [(AV.i IntKind.i64 n)]) xs))), (2, (AV.i IntKind.i64 (0 : Int))), (3, (AV.i IntKind.i64 (0 : Int))), (6, (AV.sl (List.map (fun (n : Int) => [(AV.i IntKind.i64 n)]) xs))), (7, (AV.i IntKind.i64 (((List.length (List.map (fun (n : Int) => [(AV.i IntKind.i64 n)]) xs)) : Nat) : Int))), (8, (AV.i IntKind.i64 (0 : Int)))], σ := ([] : List (Prod Nat Blk)), n := 0, m := 18 : St}))
theorem vOr_eq (xs : List Int) (I : St → Prop) (v : AV) : vOr xs I v = (evF Try.prog T0 Try.f51 [] (atK 0 (hd Try.f51 3) [] [0,2,3,6,7,8] I) [.sl (xs.map fun n => [.i .i64 n])] [] [] v []) := by kernel_rfl

def iOr (xs : List Int) (j : Nat) : St := { t := [(0, .sl (xs.map fun n => [.i .i64 n])), (2, .i .i64 0), (3, .i .i64 0), (6, .sl (xs.map fun n => [.i .i64 n])), (7, .i .i64 (xs.map fun n => [AV.i .i64 n]).length), (8, .i .i64 j)], σ := [], n := 0, m := 18 }
def vOrL (xs : List Int) (j : Nat) (I : St → Prop) (v : AV) : Prop :=
 (brP (decide ((((j : Nat) : Int) : Int) < (((List.length (List.map (fun (n : Int) => [(AV.i IntKind.i64 n)]) xs)) : Nat) : Int))) ((((0 : Int) : Int) ≤ ((j : Nat) : Int)) ∧
 (((((j : Nat) : Int) : Int) < (((List.length (List.map (fun (n : Int) => [(AV.i IntKind.i64 n)]) xs)) : Nat) : Int)) ∧
 (∃ n : Int, ((((List.map (fun (n1 : Int) => [(AV.i IntKind.i64 n1)]) xs))[(Int.toNat ((j : Nat) : Int))]? = ((Option.some [(AV.i IntKind.i64 n)]) : (Option (List AV)))) ∧
 ((1 = (1 : Nat)) ∧
 (brP (!(decide (n = ((0 : Int) : Int)))) (((AV.i IntKind.i64 n) = (v : AV)) ∧
 (([] : List (Prod Nat Blk)) = (([] : List (Prod Nat Blk)) : Heap))) ((AtL (hd Try.f51 (3 : Nat)) (hd Try.f51 (3 : Nat))) ∧
 (I { t := [(0, (AV.sl (List.map (fun (n1 : Int) => [(AV.i IntKind.i64 n1)]) xs))), (2, (AV.i IntKind.i64 (0 : Int))), (3, (AV.i IntKind.i64 (0 : Int))), (6, (AV.sl (List.map (fun (n1 : Int) => [(AV.i IntKind.i64 n1)]) xs))), (7, (AV.i IntKind.i64 (((List.length (List.map (fun (n1 : Int) => [(AV.i IntKind.i64 n1)]) xs)) : Nat) : Int))), (8, (AV.i IntKind.i64 (IntKind.wrap IntKind.i64 (((j : Nat) : Int) + (1 : Int) : Int))))], σ := ([] : List (Prod Nat Blk)), n := 0, m := 18 : St})))))))) (((AV.i IntKind.i64 (0 : Int)) = (v : AV)) ∧
 (([] : List (Prod Nat Blk)) = (([] : List (Prod Nat Blk)) : Heap))))
theorem vOrL_eq (xs : List Int) (j : Nat) (I : St → Prop) (v : AV) : vOrL xs j I v = (evL Try.prog T0 Try.f51 [] (atK 0 (hd Try.f51 3) [] [0,2,3,6,7,8] I) 3 (iOr xs j) 0 [] v []) := by kernel_rfl

def vSizes (a b c : Int) (l : AV) (v : AV) : Prop :=
 (brP (decide (((1 : Int) : Int) ≤ a)) (brP (decide ((a : Int) ≤ b)) (brP (decide ((b : Int) ≤ (32 : Int))) (brP (decide (((1 : Int) : Int) ≤ c)) (((AV.b (decide ((c : Int) ≤ (1073741824 : Int)))) = (v : AV)) ∧
 (([] : List (Prod Nat Blk)) = (([] : List (Prod Nat Blk)) : Heap))) (((AV.b Bool.false) = (v : AV)) ∧
 (([] : List (Prod Nat Blk)) = (([] : List (Prod Nat Blk)) : Heap)))) (((AV.b Bool.false) = (v : AV)) ∧
 (([] : List (Prod Nat Blk)) = (([] : List (Prod Nat Blk)) : Heap)))) (((AV.b Bool.false) = (v : AV)) ∧
 (([] : List (Prod Nat Blk)) = (([] : List (Prod Nat Blk)) : Heap)))) (((AV.b Bool.false) = (v : AV)) ∧
 (([] : List (Prod Nat Blk)) = (([] : List (Prod Nat Blk)) : Heap))))
theorem vSizes_eq (a b c : Int) (l : AV) (v : AV) : vSizes a b c l v = (evF Try.prog T0 Try.f25 [] noK [.ag [.i .i64 a, .i .i64 b, .i .i64 c, l]] [] [] v []) := by kernel_rfl

def vNew (a b c : Int) (v : AV) : Prop :=
 (∃ x : Bool, ((ACalls Try.prog 25 [(AV.ag [(AV.i IntKind.i64 a), (AV.i IntKind.i64 b), (AV.i IntKind.i64 c), (AV.sl ([] : List (List AV)))])] ([] : List (Prod Nat Blk)) (AV.b x) ([] : List (Prod Nat Blk))) ∧
 (brP (!x) (((AV.tup [(AV.ag [(AV.i IntKind.i64 (0 : Int)), (AV.i IntKind.i64 (0 : Int)), (AV.i IntKind.i64 (0 : Int)), (AV.sl ([] : List (List AV)))]), (AV.i IntKind.i64 (3 : Int))]) = (v : AV)) ∧
 (([] : List (Prod Nat Blk)) = (([] : List (Prod Nat Blk)) : Heap))) (((AV.tup [(AV.ag [(AV.i IntKind.i64 a), (AV.i IntKind.i64 b), (AV.i IntKind.i64 c), (AV.sl ([] : List (List AV)))]), (AV.i IntKind.i64 (0 : Int))]) = (v : AV)) ∧
 (([] : List (Prod Nat Blk)) = (([] : List (Prod Nat Blk)) : Heap))))))
theorem vNew_eq (a b c : Int) (v : AV) : vNew a b c v = (evF Try.prog T0 Try.f10 [] noK [.i .i64 a, .i .i64 b, .i .i64 c] [] [] v []) := by kernel_rfl

def vNumbers (a b c : Int) (v : AV) : Prop :=
 (brP (decide (((1 : Int) : Int) ≤ a)) (brP (decide ((a : Int) ≤ b)) (brP (decide ((b : Int) ≤ (32 : Int))) (brP (decide (((1 : Int) : Int) ≤ c)) (((AV.b (decide ((c : Int) ≤ (1073741824 : Int)))) = (v : AV)) ∧
 (([] : List (Prod Nat Blk)) = (([] : List (Prod Nat Blk)) : Heap))) (((AV.b Bool.false) = (v : AV)) ∧
 (([] : List (Prod Nat Blk)) = (([] : List (Prod Nat Blk)) : Heap)))) (((AV.b Bool.false) = (v : AV)) ∧
 (([] : List (Prod Nat Blk)) = (([] : List (Prod Nat Blk)) : Heap)))) (((AV.b Bool.false) = (v : AV)) ∧
 (([] : List (Prod Nat Blk)) = (([] : List (Prod Nat Blk)) : Heap)))) (((AV.b Bool.false) = (v : AV)) ∧
 (([] : List (Prod Nat Blk)) = (([] : List (Prod Nat Blk)) : Heap))))
theorem vNumbers_eq (a b c : Int) (v : AV) : vNumbers a b c v = (evF Try.prog T0 Try.f26 [] noK [.i .i64 a, .i .i64 b, .i .i64 c] [] [] v []) := by kernel_rfl

def vNew2 (a b c : Int) (v : AV) : Prop :=
 (∃ x : Bool, ((ACalls Try.prog 26 [(AV.i IntKind.i64 a), (AV.i IntKind.i64 b), (AV.i IntKind.i64 c)] ([] : List (Prod Nat Blk)) (AV.b x) ([] : List (Prod Nat Blk))) ∧
 (brP (!x) (((AV.tup [(AV.ag [(AV.i IntKind.i64 (0 : Int)), (AV.i IntKind.i64 (0 : Int)), (AV.i IntKind.i64 (0 : Int)), (AV.sl ([] : List (List AV)))]), (AV.i IntKind.i64 (3 : Int))]) = (v : AV)) ∧
 (([] : List (Prod Nat Blk)) = (([] : List (Prod Nat Blk)) : Heap))) (((AV.tup [(AV.ag [(AV.i IntKind.i64 a), (AV.i IntKind.i64 b), (AV.i IntKind.i64 c), (AV.sl ([] : List (List AV)))]), (AV.i IntKind.i64 (0 : Int))]) = (v : AV)) ∧
 (([] : List (Prod Nat Blk)) = (([] : List (Prod Nat Blk)) : Heap))))))
theorem vNew2_eq (a b c : Int) (v : AV) : vNew2 a b c v = (evF Try.prog T0 Try.f11 [] noK [.i .i64 a, .i .i64 b, .i .i64 c] [] [] v []) := by kernel_rfl

end Go.AM.Q
set_option maxRecDepth 100000
set_option linter.unusedVariables false
set_option linter.unusedSimpArgs false
namespace Go.AM.Q
open Go.Proofs
theorem brP_iff {x : Bool} {A B : Prop} : brP x A B ↔ (x = true → A) ∧ (x = false → B) := by
  cases x <;> simp [brP]
theorem acalls_vc {VC : Prop} {P : Program} {T : Nat → Option CSpec} {f : FuncId} {fn : Func} {stop : List Nat} {KS : List Item → St → Prop} {args : List AV} {σ : Heap} {ex : List Nat} {v : AV} {σ' : Heap}
    (e : VC = evF P T fn stop KS args σ ex v σ') (hf : P.funcs[f]? = some fn) (hb : fn.body.isSome = true) (hKS : ∀ todo s, KS todo s → Runs P f σ.length todo s (RetR σ.length ex v σ')) (h : VC) : ACalls P f args σ v σ' :=
  acalls_ev hf hb (e.mp h) hKS
theorem noK_runs {P : Program} {f kk : Nat} {R : AV → St → Prop} (todo : List Item) (s : St) (h : noK todo s) : Runs P f kk todo s R := h.elim

def sizesB (a b c : Int) : Bool := decide (1 ≤ a) && decide (a ≤ b) && decide (b ≤ 32) && decide (1 ≤ c) && decide (c ≤ 1073741824)
theorem sizes_calls (a b c : Int) (l : AV) : ACalls Try.prog 25 [.ag [.i .i64 a, .i .i64 b, .i .i64 c, l]] [] (.b (sizesB a b c)) [] :=
  acalls_vc (vSizes_eq a b c l (.b (sizesB a b c))) (by kernel_rfl) (by kernel_rfl) noK_runs (by
    simp only [vSizes, brP_iff, sizesB]
    grind)
theorem numbers_calls (a b c : Int) : ACalls Try.prog 26 [.i .i64 a, .i .i64 b, .i .i64 c] [] (.b (sizesB a b c)) [] :=
  acalls_vc (vNumbers_eq a b c (.b (sizesB a b c))) (by kernel_rfl) (by kernel_rfl) noK_runs (by
    simp only [vNumbers, brP_iff, sizesB]
    grind)
/-- A quarantine. -/
def qAV (a b c : Int) (l : List (List AV)) : AV := .ag [.i .i64 a, .i .i64 b, .i .i64 c, .sl l]
def newR (a b c : Int) : AV := bif sizesB a b c then .tup [qAV a b c [], .i .i64 0] else .tup [qAV 0 0 0 [], .i .i64 3]
theorem new_calls (a b c : Int) : ACalls Try.prog 10 [.i .i64 a, .i .i64 b, .i .i64 c] [] (newR a b c) [] :=
  acalls_vc (vNew_eq a b c (newR a b c)) (by kernel_rfl) (by kernel_rfl) noK_runs (by
    refine ⟨sizesB a b c, sizes_calls a b c _, ?_⟩
    simp only [brP_iff, newR, qAV]
    cases sizesB a b c <;> simp)
theorem new2_calls (a b c : Int) : ACalls Try.prog 11 [.i .i64 a, .i .i64 b, .i .i64 c] [] (newR a b c) [] :=
  acalls_vc (vNew2_eq a b c (newR a b c)) (by kernel_rfl) (by kernel_rfl) noK_runs (by
    refine ⟨sizesB a b c, numbers_calls a b c, ?_⟩
    simp only [brP_iff, newR, qAV]
    cases sizesB a b c <;> simp)
def usableB (x y : ByteArray) : Bool := !strEq x ⟨#[]⟩ && decide ((x.size : Int) ≤ 24) && !strEq y ⟨#[]⟩ && decide ((y.size : Int) ≤ 24)
theorem usable_calls (x y : ByteArray) : ACalls Try.prog 79 [.ag [.s x, .s y]] [] (.b (usableB x y)) [] :=
  acalls_vc (vUsable_eq x y (.b (usableB x y))) (by kernel_rfl) (by kernel_rfl) noK_runs (by
    simp only [vUsable, brP_iff, usableB]
    grind)
end Go.AM.Q
set_option maxRecDepth 100000
set_option linter.unusedVariables false
namespace Go.AM.Q
open Go.Proofs
--BEGIN
def vNaNs (x : ByteArray) (v : AV) : Prop :=
 (((AV.b (!(strEq x x))) = (v : AV)) ∧
 (([] : List (Prod Nat Blk)) = (([] : List (Prod Nat Blk)) : Heap)))
theorem vNaNs_eq (x : ByteArray) (v : AV) : vNaNs x v = (evF Try.prog T0 Try.f74 [] noK [.s x] [] [] v []) := by kernel_rfl

def vNaNi (x : Int) (v : AV) : Prop :=
 (((AV.b (!(decide (x = (x : Int))))) = (v : AV)) ∧
 (([] : List (Prod Nat Blk)) = (([] : List (Prod Nat Blk)) : Heap)))
theorem vNaNi_eq (x : Int) (v : AV) : vNaNi x v = (evF Try.prog T0 Try.f75 [] noK [.i .i64 x] [] [] v []) := by kernel_rfl

def vCmpS (x y : ByteArray) (v : AV) : Prop :=
 (∃ x1 : Bool, ((ACalls Try.prog 74 [(AV.s x)] ([] : List (Prod Nat Blk)) (AV.b x1) ([] : List (Prod Nat Blk))) ∧
 (∃ x2 : Bool, ((ACalls Try.prog 74 [(AV.s y)] ([] : List (Prod Nat Blk)) (AV.b x2) ([] : List (Prod Nat Blk))) ∧
 (brP x1 (brP x2 (((AV.i IntKind.i64 (0 : Int)) = (v : AV)) ∧
 (([] : List (Prod Nat Blk)) = (([] : List (Prod Nat Blk)) : Heap))) (((AV.i IntKind.i64 (-1 : Int)) = (v : AV)) ∧
 (([] : List (Prod Nat Blk)) = (([] : List (Prod Nat Blk)) : Heap)))) (brP x2 (((AV.i IntKind.i64 (1 : Int)) = (v : AV)) ∧
 (([] : List (Prod Nat Blk)) = (([] : List (Prod Nat Blk)) : Heap))) (brP (Op.bytesLess (ByteArray.toList x) (ByteArray.toList y)) (((AV.i IntKind.i64 (-1 : Int)) = (v : AV)) ∧
 (([] : List (Prod Nat Blk)) = (([] : List (Prod Nat Blk)) : Heap))) (brP (!(Bool.or (Op.bytesLess (ByteArray.toList x) (ByteArray.toList y)) (strEq x y))) (((AV.i IntKind.i64 (1 : Int)) = (v : AV)) ∧
 (([] : List (Prod Nat Blk)) = (([] : List (Prod Nat Blk)) : Heap))) (((AV.i IntKind.i64 (0 : Int)) = (v : AV)) ∧
 (([] : List (Prod Nat Blk)) = (([] : List (Prod Nat Blk)) : Heap)))))))))))
theorem vCmpS_eq (x y : ByteArray) (v : AV) : vCmpS x y v = (evF Try.prog T0 Try.f52 [] noK [.s x, .s y] [] [] v []) := by kernel_rfl

def vCmpI (x y : Int) (v : AV) : Prop :=
 (∃ x1 : Bool, ((ACalls Try.prog 75 [(AV.i IntKind.i64 x)] ([] : List (Prod Nat Blk)) (AV.b x1) ([] : List (Prod Nat Blk))) ∧
 (∃ x2 : Bool, ((ACalls Try.prog 75 [(AV.i IntKind.i64 y)] ([] : List (Prod Nat Blk)) (AV.b x2) ([] : List (Prod Nat Blk))) ∧
 (brP x1 (brP x2 (((AV.i IntKind.i64 (0 : Int)) = (v : AV)) ∧
 (([] : List (Prod Nat Blk)) = (([] : List (Prod Nat Blk)) : Heap))) (((AV.i IntKind.i64 (-1 : Int)) = (v : AV)) ∧
 (([] : List (Prod Nat Blk)) = (([] : List (Prod Nat Blk)) : Heap)))) (brP x2 (((AV.i IntKind.i64 (1 : Int)) = (v : AV)) ∧
 (([] : List (Prod Nat Blk)) = (([] : List (Prod Nat Blk)) : Heap))) (brP (decide ((x : Int) < y)) (((AV.i IntKind.i64 (-1 : Int)) = (v : AV)) ∧
 (([] : List (Prod Nat Blk)) = (([] : List (Prod Nat Blk)) : Heap))) (brP (decide ((y : Int) < x)) (((AV.i IntKind.i64 (1 : Int)) = (v : AV)) ∧
 (([] : List (Prod Nat Blk)) = (([] : List (Prod Nat Blk)) : Heap))) (((AV.i IntKind.i64 (0 : Int)) = (v : AV)) ∧
 (([] : List (Prod Nat Blk)) = (([] : List (Prod Nat Blk)) : Heap)))))))))))
theorem vCmpI_eq (x y : Int) (v : AV) : vCmpI x y v = (evF Try.prog T0 Try.f53 [] noK [.i .i64 x, .i .i64 y] [] [] v []) := by kernel_rfl

def vHist (x y : ByteArray) (a b : Int) (v : AV) : Prop :=
 (∃ x1 : Bool, ((ACalls Try.prog 79 [(AV.ag [(AV.s x), (AV.s y)])] ([] : List (Prod Nat Blk)) (AV.b x1) ([] : List (Prod Nat Blk))) ∧
 (brP (!x1) (((AV.tup [(AV.ag [(AV.s (ByteArray.mk (Array.mk ([] : List UInt8)))), (AV.s (ByteArray.mk (Array.mk ([] : List UInt8)))), (AV.i IntKind.i64 (0 : Int)), (AV.i IntKind.i64 (0 : Int)), (AV.i IntKind.i64 (0 : Int)), (AV.i IntKind.i64 (0 : Int)), (AV.i IntKind.i64 (0 : Int)), (AV.sl ([] : List (List AV)))]), (AV.i IntKind.i64 (1 : Int))]) = (v : AV)) ∧
 (([] : List (Prod Nat Blk)) = (([] : List (Prod Nat Blk)) : Heap))) (brP (decide ((a : Int) < (0 : Int))) (((AV.tup [(AV.ag [(AV.s (ByteArray.mk (Array.mk ([] : List UInt8)))), (AV.s (ByteArray.mk (Array.mk ([] : List UInt8)))), (AV.i IntKind.i64 (0 : Int)), (AV.i IntKind.i64 (0 : Int)), (AV.i IntKind.i64 (0 : Int)), (AV.i IntKind.i64 (0 : Int)), (AV.i IntKind.i64 (0 : Int)), (AV.sl ([] : List (List AV)))]), (AV.i IntKind.i64 (3 : Int))]) = (v : AV)) ∧
 (([] : List (Prod Nat Blk)) = (([] : List (Prod Nat Blk)) : Heap))) (brP (decide (((63 : Int) : Int) < a)) (((AV.tup [(AV.ag [(AV.s (ByteArray.mk (Array.mk ([] : List UInt8)))), (AV.s (ByteArray.mk (Array.mk ([] : List UInt8)))), (AV.i IntKind.i64 (0 : Int)), (AV.i IntKind.i64 (0 : Int)), (AV.i IntKind.i64 (0 : Int)), (AV.i IntKind.i64 (0 : Int)), (AV.i IntKind.i64 (0 : Int)), (AV.sl ([] : List (List AV)))]), (AV.i IntKind.i64 (3 : Int))]) = (v : AV)) ∧
 (([] : List (Prod Nat Blk)) = (([] : List (Prod Nat Blk)) : Heap))) (brP (decide ((b : Int) < (2 : Int))) (((AV.tup [(AV.ag [(AV.s (ByteArray.mk (Array.mk ([] : List UInt8)))), (AV.s (ByteArray.mk (Array.mk ([] : List UInt8)))), (AV.i IntKind.i64 (0 : Int)), (AV.i IntKind.i64 (0 : Int)), (AV.i IntKind.i64 (0 : Int)), (AV.i IntKind.i64 (0 : Int)), (AV.i IntKind.i64 (0 : Int)), (AV.sl ([] : List (List AV)))]), (AV.i IntKind.i64 (3 : Int))]) = (v : AV)) ∧
 (([] : List (Prod Nat Blk)) = (([] : List (Prod Nat Blk)) : Heap))) (brP (decide (((16 : Int) : Int) < b)) (((AV.tup [(AV.ag [(AV.s (ByteArray.mk (Array.mk ([] : List UInt8)))), (AV.s (ByteArray.mk (Array.mk ([] : List UInt8)))), (AV.i IntKind.i64 (0 : Int)), (AV.i IntKind.i64 (0 : Int)), (AV.i IntKind.i64 (0 : Int)), (AV.i IntKind.i64 (0 : Int)), (AV.i IntKind.i64 (0 : Int)), (AV.sl ([] : List (List AV)))]), (AV.i IntKind.i64 (3 : Int))]) = (v : AV)) ∧
 (([] : List (Prod Nat Blk)) = (([] : List (Prod Nat Blk)) : Heap))) (((AV.tup [(AV.ag [(AV.s x), (AV.s y), (AV.i IntKind.i64 a), (AV.i IntKind.i64 b), (AV.i IntKind.i64 (0 : Int)), (AV.i IntKind.i64 (0 : Int)), (AV.i IntKind.i64 (0 : Int)), (AV.sl ([] : List (List AV)))]), (AV.i IntKind.i64 (0 : Int))]) = (v : AV)) ∧
 (([] : List (Prod Nat Blk)) = (([] : List (Prod Nat Blk)) : Heap))))))))))
theorem vHist_eq (x y : ByteArray) (a b : Int) (v : AV) : vHist x y a b v = (evF Try.prog T0 Try.f71 [] noK [.ag [.s x, .s y], .i .i64 a, .i .i64 b] [] [] v []) := by kernel_rfl

def vWho (x y z : ByteArray) (a f u r c : Int) (v : AV) : Prop :=
 (∃ x1 : ByteArray, (∃ x2 : ByteArray, (∃ n : Int, (∃ n1 : Int, (∃ n2 : Int, (∃ n3 : Int, (∃ n4 : Int, (∃ xs : (List (List AV)), (∃ n5 : Int, ((ACalls Try.prog 71 [(AV.ag [(AV.s x), (AV.s y)]), (AV.i IntKind.i64 a), (AV.i IntKind.i64 (2 : Int))] ([] : List (Prod Nat Blk)) (AV.tup [(AV.ag (([(AV.s x1)] ++ ([(AV.s x2)] ++ ([] : List AV) : (List AV)) : (List AV)) ++ ([(AV.i IntKind.i64 n)] ++ ([(AV.i IntKind.i64 n1)] ++ ([(AV.i IntKind.i64 n2)] ++ ([(AV.i IntKind.i64 n3)] ++ ([(AV.i IntKind.i64 n4)] ++ ([(AV.sl xs)] ++ ([] : List AV) : (List AV)) : (List AV)) : (List AV)) : (List AV)) : (List AV)) : (List AV)) : (List AV))), (AV.i IntKind.i64 n5)]) ([] : List (Prod Nat Blk))) ∧
 (brP (decide (n5 = ((0 : Int) : Int))) (brP (!(strEq z (ByteArray.mk (Array.mk ([] : List UInt8))))) (((AV.b (decide (((((ByteArray.size z) : Nat) : Int) : Int) ≤ (24 : Int)))) = (v : AV)) ∧
 (([] : List (Prod Nat Blk)) = (([] : List (Prod Nat Blk)) : Heap))) (((AV.b Bool.false) = (v : AV)) ∧
 (([] : List (Prod Nat Blk)) = (([] : List (Prod Nat Blk)) : Heap)))) (((AV.b Bool.false) = (v : AV)) ∧
 (([] : List (Prod Nat Blk)) = (([] : List (Prod Nat Blk)) : Heap))))))))))))))
theorem vWho_eq (x y z : ByteArray) (a f u r c : Int) (v : AV) : vWho x y z a f u r c v = (evF Try.prog T0 Try.f44 [] noK [.ag [.s x, .s y, .i .i64 a, .s z, .i .i64 f, .i .i64 u, .i .i64 r, .i .i64 c]] [] [] v []) := by kernel_rfl

def vEntry (A B C : Int) (l : List (List AV)) (x y z : ByteArray) (a f u r c : Int) (v : AV) : Prop :=
 (∃ x1 : Bool, ((ACalls Try.prog 44 [(AV.ag [(AV.s x), (AV.s y), (AV.i IntKind.i64 a), (AV.s z), (AV.i IntKind.i64 f), (AV.i IntKind.i64 u), (AV.i IntKind.i64 r), (AV.i IntKind.i64 c)])] ([] : List (Prod Nat Blk)) (AV.b x1) ([] : List (Prod Nat Blk))) ∧
 (brP (!x1) (((AV.b Bool.false) = (v : AV)) ∧
 (([] : List (Prod Nat Blk)) = (([] : List (Prod Nat Blk)) : Heap))) (brP (decide ((f : Int) < (0 : Int))) (((AV.b Bool.false) = (v : AV)) ∧
 (([] : List (Prod Nat Blk)) = (([] : List (Prod Nat Blk)) : Heap))) (brP (decide ((u : Int) ≤ f)) (((AV.b Bool.false) = (v : AV)) ∧
 (([] : List (Prod Nat Blk)) = (([] : List (Prod Nat Blk)) : Heap))) (brP (decide (((1073741824 : Int) : Int) < u)) (((AV.b Bool.false) = (v : AV)) ∧
 (([] : List (Prod Nat Blk)) = (([] : List (Prod Nat Blk)) : Heap))) (brP (decide ((r : Int) < (0 : Int))) (((AV.b Bool.false) = (v : AV)) ∧
 (([] : List (Prod Nat Blk)) = (([] : List (Prod Nat Blk)) : Heap))) (brP (decide (((1 : Int) : Int) < r)) (((AV.b Bool.false) = (v : AV)) ∧
 (([] : List (Prod Nat Blk)) = (([] : List (Prod Nat Blk)) : Heap))) (brP (decide (((0 : Int) : Int) ≤ c)) (brP (decide ((c : Int) ≤ (1073741824 : Int))) (((AV.b (decide (((IntKind.wrap IntKind.i64 (u - f : Int)) : Int) ≤ (IntKind.wrap IntKind.i64 (C * (IntKind.wrap IntKind.i64 ((1 : Int) + r : Int)) : Int))))) = (v : AV)) ∧
 (([] : List (Prod Nat Blk)) = (([] : List (Prod Nat Blk)) : Heap))) (((AV.b Bool.false) = (v : AV)) ∧
 (([] : List (Prod Nat Blk)) = (([] : List (Prod Nat Blk)) : Heap)))) (((AV.b Bool.false) = (v : AV)) ∧
 (([] : List (Prod Nat Blk)) = (([] : List (Prod Nat Blk)) : Heap))))))))))))
theorem vEntry_eq (A B C : Int) (l : List (List AV)) (x y z : ByteArray) (a f u r c : Int) (v : AV) : vEntry A B C l x y z a f u r c v = (evF Try.prog T0 Try.f28 [] noK [.ag [.i .i64 A, .i .i64 B, .i .i64 C, .sl l], .ag [.s x, .s y, .i .i64 a, .s z, .i .i64 f, .i .i64 u, .i .i64 r, .i .i64 c]] [] [] v []) := by kernel_rfl

def vMeets (x y z : ByteArray) (a f u r c : Int) (x' y' z' : ByteArray) (a' f' u' r' c' : Int) (v : AV) : Prop :=
 (brP (Bool.and (strEq x x') (Bool.and (strEq y y') Bool.true)) (brP (decide (a = (a' : Int))) (brP (decide ((f : Int) < u')) (((AV.b (decide ((f' : Int) < u))) = (v : AV)) ∧
 (([] : List (Prod Nat Blk)) = (([] : List (Prod Nat Blk)) : Heap))) (((AV.b Bool.false) = (v : AV)) ∧
 (([] : List (Prod Nat Blk)) = (([] : List (Prod Nat Blk)) : Heap)))) (((AV.b Bool.false) = (v : AV)) ∧
 (([] : List (Prod Nat Blk)) = (([] : List (Prod Nat Blk)) : Heap)))) (((AV.b Bool.false) = (v : AV)) ∧
 (([] : List (Prod Nat Blk)) = (([] : List (Prod Nat Blk)) : Heap))))
theorem vMeets_eq (x y z : ByteArray) (a f u r c : Int) (x' y' z' : ByteArray) (a' f' u' r' c' : Int) (v : AV) : vMeets x y z a f u r c x' y' z' a' f' u' r' c' v = (evF Try.prog T0 Try.f30 [] noK [.ag [.s x, .s y, .i .i64 a, .s z, .i .i64 f, .i .i64 u, .i .i64 r, .i .i64 c], .ag [.s x', .s y', .i .i64 a', .s z', .i .i64 f', .i .i64 u', .i .i64 r', .i .i64 c']] [] [] v []) := by kernel_rfl

def vCompare (x y z : ByteArray) (a f u r c : Int) (x' y' z' : ByteArray) (a' f' u' r' c' : Int) (v : AV) : Prop :=
 (∃ n : Int, ((ACalls Try.prog 52 [(AV.s x), (AV.s x')] ([] : List (Prod Nat Blk)) (AV.i IntKind.i64 n) ([] : List (Prod Nat Blk))) ∧
 (∃ n1 : Int, ((ACalls Try.prog 52 [(AV.s y), (AV.s y')] ([] : List (Prod Nat Blk)) (AV.i IntKind.i64 n1) ([] : List (Prod Nat Blk))) ∧
 (∃ n2 : Int, ((ACalls Try.prog 53 [(AV.i IntKind.i64 a), (AV.i IntKind.i64 a')] ([] : List (Prod Nat Blk)) (AV.i IntKind.i64 n2) ([] : List (Prod Nat Blk))) ∧
 (∃ n3 : Int, ((ACalls Try.prog 53 [(AV.i IntKind.i64 f), (AV.i IntKind.i64 f')] ([] : List (Prod Nat Blk)) (AV.i IntKind.i64 n3) ([] : List (Prod Nat Blk))) ∧
 (∃ n4 : Int, ((ACalls Try.prog 51 [(AV.sl [[(AV.i IntKind.i64 n)], [(AV.i IntKind.i64 n1)], [(AV.i IntKind.i64 n2)], [(AV.i IntKind.i64 n3)]])] ([] : List (Prod Nat Blk)) (AV.i IntKind.i64 n4) ([] : List (Prod Nat Blk))) ∧
 ((Bool.true = (Bool.true : Bool)) ∧
 (((AV.i IntKind.i64 n4) = (v : AV)) ∧
 (([] : List (Prod Nat Blk)) = (([] : List (Prod Nat Blk)) : Heap))))))))))))))
theorem vCompare_eq (x y z : ByteArray) (a f u r c : Int) (x' y' z' : ByteArray) (a' f' u' r' c' : Int) (v : AV) : vCompare x y z a f u r c x' y' z' a' f' u' r' c' v = (evF Try.prog T0 Try.f29 [] noK [.ag [.s x, .s y, .i .i64 a, .s z, .i .i64 f, .i .i64 u, .i .i64 r, .i .i64 c], .ag [.s x', .s y', .i .i64 a', .s z', .i .i64 f', .i .i64 u', .i .i64 r', .i .i64 c']] [] [] v []) := by kernel_rfl

end Go.AM.Q
set_option maxRecDepth 100000
set_option linter.unusedVariables false
set_option linter.unusedSimpArgs false
namespace Go.AM.Q
open Go.Proofs
theorem strEq_self (x : ByteArray) : strEq x x = true := by simp [strEq]
theorem nanS_calls (x : ByteArray) : ACalls Try.prog 74 [.s x] [] (.b false) [] :=
  acalls_vc (vNaNs_eq x (.b false)) (by kernel_rfl) (by kernel_rfl) noK_runs (by simp [vNaNs, strEq_self])
theorem nanI_calls (x : Int) : ACalls Try.prog 75 [.i .i64 x] [] (.b false) [] :=
  acalls_vc (vNaNi_eq x (.b false)) (by kernel_rfl) (by kernel_rfl) noK_runs (by simp [vNaNi])
def cmpI (x y : Int) : Int := bif decide (x < y) then -1 else bif decide (y < x) then 1 else 0
theorem cmpI_calls (x y : Int) : ACalls Try.prog 53 [.i .i64 x, .i .i64 y] [] (.i .i64 (cmpI x y)) [] :=
  acalls_vc (vCmpI_eq x y (.i .i64 (cmpI x y))) (by kernel_rfl) (by kernel_rfl) noK_runs (by
    refine ⟨false, nanI_calls x, false, nanI_calls y, ?_⟩
    simp only [brP_iff, cmpI]
    grind)
/-- An entry. -/
structure Held where
  p : ByteArray
  t : ByteArray
  e : Int
  by' : ByteArray
  f : Int
  u : Int
  r : Int
  c : Int
def Held.cells (h : Held) : List AV := [.s h.p, .s h.t, .i .i64 h.e, .s h.by', .i .i64 h.f, .i .i64 h.u, .i .i64 h.r, .i .i64 h.c]
def histR (x y : ByteArray) (a b : Int) : AV :=
  bif !usableB x y then .tup [.ag [.s ⟨#[]⟩, .s ⟨#[]⟩, .i .i64 0, .i .i64 0, .i .i64 0, .i .i64 0, .i .i64 0, .sl []], .i .i64 1]
  else bif decide (a < 0) || decide (63 < a) || decide (b < 2) || decide (16 < b) then .tup [.ag [.s ⟨#[]⟩, .s ⟨#[]⟩, .i .i64 0, .i .i64 0, .i .i64 0, .i .i64 0, .i .i64 0, .sl []], .i .i64 3]
  else .tup [.ag [.s x, .s y, .i .i64 a, .i .i64 b, .i .i64 0, .i .i64 0, .i .i64 0, .sl []], .i .i64 0]
theorem hist_calls (x y : ByteArray) (a b : Int) : ACalls Try.prog 71 [.ag [.s x, .s y], .i .i64 a, .i .i64 b] [] (histR x y a b) [] :=
  acalls_vc (vHist_eq x y a b (histR x y a b)) (by kernel_rfl) (by kernel_rfl) noK_runs (by
    refine ⟨usableB x y, usable_calls x y, ?_⟩
    simp only [brP_iff, histR]
    cases usableB x y <;> simp <;> grind)
def whoB (h : Held) : Bool := usableB h.p h.t && decide (0 ≤ h.e) && decide (h.e ≤ 63) && !strEq h.by' ⟨#[]⟩ && decide ((h.by'.size : Int) ≤ 24)
theorem who_calls (h : Held) : ACalls Try.prog 44 [.ag h.cells] [] (.b (whoB h)) [] :=
  acalls_vc (vWho_eq h.p h.t h.by' h.e h.f h.u h.r h.c (.b (whoB h))) (by kernel_rfl) (by kernel_rfl) noK_runs (by
    have hh := hist_calls h.p h.t h.e 2
    unfold vWho
    by_cases hu : usableB h.p h.t = true
    · by_cases he : h.e < 0 ∨ 63 < h.e
      · refine ⟨⟨#[]⟩, ⟨#[]⟩, 0, 0, 0, 0, 0, [], 3, ?_, ?_⟩
        · have : histR h.p h.t h.e 2 = AV.tup [.ag [.s ⟨#[]⟩, .s ⟨#[]⟩, .i .i64 0, .i .i64 0, .i .i64 0, .i .i64 0, .i .i64 0, .sl []], .i .i64 3] := by unfold histR; rw [hu]; rw [show (decide (h.e < 0) || decide (63 < h.e) || decide ((2:Int) < 2) || decide ((16:Int) < 2)) = true by simp; omega]; rfl
          rw [this] at hh; exact hh
        · simp only [brP_iff, whoB]
          grind
      · refine ⟨h.p, h.t, h.e, 2, 0, 0, 0, [], 0, ?_, ?_⟩
        · have : histR h.p h.t h.e 2 = AV.tup [.ag [.s h.p, .s h.t, .i .i64 h.e, .i .i64 2, .i .i64 0, .i .i64 0, .i .i64 0, .sl []], .i .i64 0] := by unfold histR; rw [hu]; rw [show (decide (h.e < 0) || decide (63 < h.e) || decide ((2:Int) < 2) || decide ((16:Int) < 2)) = false by simp; omega]; rfl
          rw [this] at hh; exact hh
        · simp only [brP_iff, whoB]
          grind
    · simp only [Bool.not_eq_true] at hu
      refine ⟨⟨#[]⟩, ⟨#[]⟩, 0, 0, 0, 0, 0, [], 1, ?_, ?_⟩
      · have : histR h.p h.t h.e 2 = AV.tup [.ag [.s ⟨#[]⟩, .s ⟨#[]⟩, .i .i64 0, .i .i64 0, .i .i64 0, .i .i64 0, .i .i64 0, .sl []], .i .i64 1] := by unfold histR; rw [hu]; simp
        rw [this] at hh; exact hh
      · simp only [brP_iff, whoB]
        grind)
def meetsB (h k : Held) : Bool := strEq h.p k.p && strEq h.t k.t && decide (h.e = k.e) && decide (h.f < k.u) && decide (k.f < h.u)
theorem meets_calls (h k : Held) : ACalls Try.prog 30 [.ag h.cells, .ag k.cells] [] (.b (meetsB h k)) [] :=
  acalls_vc (vMeets_eq h.p h.t h.by' h.e h.f h.u h.r h.c k.p k.t k.by' k.e k.f k.u k.r k.c (.b (meetsB h k))) (by kernel_rfl) (by kernel_rfl) noK_runs (by
    simp only [vMeets, brP_iff, meetsB]
    grind)
end Go.AM.Q
set_option maxRecDepth 100000
set_option linter.unusedVariables false
set_option linter.unusedSimpArgs false
namespace Go.AM.Q
open Go.Proofs
theorem wrap_id {n : Int} (h1 : -9223372036854775808 ≤ n) (h2 : n < 9223372036854775808) : IntKind.i64.wrap n = n := by
  (simp [IntKind.wrap, IntKind.bits, IntKind.signed]; omega)
def orS : List Int → Int
  | [] => 0
  | x :: r => bif decide (x = 0) then orS r else x
def rowI (xs : List Int) : List (List AV) := xs.map fun n => [.i .i64 n]
theorem runs_vc {VC : Prop} {P : Program} {T : Nat → Option CSpec} {f : FuncId} {fn : Func} {stop : List Nat} {KS : List Item → St → Prop} {id : Nat} {s : St} {kk : Nat} {ex : List Nat} {v : AV} {σ' : Heap}
    (e : VC = evL P T fn stop KS id s kk ex v σ') (hf : P.funcs[f]? = some fn) (hKS : ∀ todo s, KS todo s → Runs P f kk todo s (RetR kk ex v σ')) (h : VC) : Runs P f kk (hd fn id) s (RetR kk ex v σ') :=
  runs_ev hf (e.mp h) hKS
theorem or_loop (xs : List Int) (hx : xs.length < 9223372036854775807) : ∀ (k j : Nat), xs.length - j = k → j ≤ xs.length → Runs Try.prog 51 0 (hd Try.f51 3) (iOr xs j) (RetR 0 [] (.i .i64 (orS (xs.drop j))) []) := by
  intro k
  induction k with
  | zero =>
    intro j hk hj
    refine runs_vc (vOrL_eq xs j (fun _ => False) _) (by kernel_rfl) (fun todo s h => Runs.head h (fun _ h => h.elim)) ?_
    have hj' : j = xs.length := by omega
    subst hj'
    simp [vOrL, brP_iff, orS]
  | succ k ih =>
    intro j hk hj
    have hlt : j < xs.length := by omega
    have hd : xs.drop j = xs[j] :: xs.drop (j+1) := List.drop_eq_getElem_cons hlt
    refine runs_vc (vOrL_eq xs j (fun s => s = iOr xs (j+1) ∧ xs[j] = 0) _) (by kernel_rfl) (fun todo s h => Runs.head h ?_) ?_
    · rintro s' ⟨rfl, h0⟩
      have := ih (j+1) (by omega) (by omega)
      rw [hd]
      simpa only [orS, h0, decide_true, cond_true] using this
    · simp only [vOrL, brP_iff]
      refine ⟨fun _ => ⟨by omega, by simpa using hlt, xs[j], by simp [hlt], by trivial, ?_, ?_⟩, fun h => ?_⟩
      · intro h0
        simp at h0
        rw [hd]
        simp [orS, h0]
      · intro h0
        simp at h0
        refine ⟨rfl, ?_, h0⟩
        simp only [iOr]
        rw [wrap_id (by omega) (by omega)]
        rfl
      · simp at h; omega
theorem or_calls (xs : List Int) (hx : xs.length < 9223372036854775807) : ACalls Try.prog 51 [.sl (xs.map fun n => [.i .i64 n])] [] (.i .i64 (orS xs)) [] :=
  acalls_vc (vOr_eq xs (fun s => s = iOr xs 0) (.i .i64 (orS xs))) (by kernel_rfl) (by kernel_rfl) (fun todo s h => Runs.head h (fun s' e => by subst e; exact or_loop xs hx _ 0 rfl (Nat.zero_le _))) ⟨rfl, rfl⟩
/-- Is the entry right in a quarantine of these numbers? -/
def entryB (C : Int) (h : Held) : Bool := whoB h && decide (0 ≤ h.f) && decide (h.f < h.u) && decide (h.u ≤ 1073741824) && decide (0 ≤ h.r) && decide (h.r ≤ 1) && decide (0 ≤ h.c) && decide (h.c ≤ 1073741824) && decide (IntKind.i64.wrap (h.u - h.f) ≤ IntKind.i64.wrap (C * IntKind.i64.wrap (1 + h.r)))
theorem entry_calls (A B C : Int) (l : List (List AV)) (h : Held) : ACalls Try.prog 28 [qAV A B C l, .ag h.cells] [] (.b (entryB C h)) [] :=
  acalls_vc (vEntry_eq A B C l h.p h.t h.by' h.e h.f h.u h.r h.c (.b (entryB C h))) (by kernel_rfl) (by kernel_rfl) noK_runs (by
    refine ⟨whoB h, who_calls h, ?_⟩
    simp only [brP_iff, entryB]
    grind)
end Go.AM.Q
set_option maxRecDepth 100000
set_option linter.unusedVariables false
namespace Go.AM.Q
open Go.Proofs
--BEGIN
def rowH (l : List Held) : List (List AV) := l.map Held.cells
def iSL (l m : List Held) (j : Nat) : St := { t := [(0, .sl (rowH l)), (1, .sl (rowH m)), (4, .b false), (5, .i .i64 j)], σ := [], n := 0, m := 26 }
def vSL (l m : List Held) (I : St → Prop) (v : AV) : Prop :=
 (brP (!(decide ((((List.length (Q.rowH l)) : Nat) : Int) = ((((List.length (Q.rowH m)) : Nat) : Int) : Int)))) (((AV.b Bool.false) = (v : AV)) ∧
 (([] : List (Prod Nat Blk)) = (([] : List (Prod Nat Blk)) : Heap))) ((AtL (hd Try.f27 (4 : Nat)) (hd Try.f27 (4 : Nat))) ∧
 (I { t := [(0, (AV.sl (Q.rowH l))), (1, (AV.sl (Q.rowH m))), (4, (AV.b Bool.false)), (5, (AV.i IntKind.i64 (0 : Int)))], σ := ([] : List (Prod Nat Blk)), n := 0, m := 26 : St})))
theorem vSL_eq (l m : List Held) (I : St → Prop) (v : AV) : vSL l m I v = (evF Try.prog T0 Try.f27 [] (atK 0 (hd Try.f27 4) [] [0,1,4,5] I) [.sl (rowH l), .sl (rowH m)] [] [] v []) := by kernel_rfl

def vSLL (l m : List Held) (j : Nat) (I : St → Prop) (v : AV) : Prop :=
 (brP (decide ((((j : Nat) : Int) : Int) < (((List.length (Q.rowH l)) : Nat) : Int))) ((((0 : Int) : Int) ≤ ((j : Nat) : Int)) ∧
 (((((j : Nat) : Int) : Int) < (((List.length (Q.rowH l)) : Nat) : Int)) ∧
 (∃ x : ByteArray, (∃ x1 : ByteArray, (∃ n : Int, (∃ x2 : ByteArray, (∃ n1 : Int, (∃ n2 : Int, (∃ n3 : Int, (∃ n4 : Int, ((((Q.rowH l))[(Int.toNat ((j : Nat) : Int))]? = ((Option.some [(AV.s x), (AV.s x1), (AV.i IntKind.i64 n), (AV.s x2), (AV.i IntKind.i64 n1), (AV.i IntKind.i64 n2), (AV.i IntKind.i64 n3), (AV.i IntKind.i64 n4)]) : (Option (List AV)))) ∧
 (((List.length (([(AV.s x)] ++ ([(AV.s x1)] ++ ([] : List AV) : (List AV)) : (List AV)) ++ ([(AV.i IntKind.i64 n)] ++ ([(AV.s x2)] ++ ([(AV.i IntKind.i64 n1)] ++ ([(AV.i IntKind.i64 n2)] ++ ([(AV.i IntKind.i64 n3)] ++ ([(AV.i IntKind.i64 n4)] ++ ([] : List AV) : (List AV)) : (List AV)) : (List AV)) : (List AV)) : (List AV)) : (List AV)) : (List AV))) = (8 : Nat)) ∧
 ((((0 : Int) : Int) ≤ ((j : Nat) : Int)) ∧
 (((((j : Nat) : Int) : Int) < (((List.length (Q.rowH m)) : Nat) : Int)) ∧
 (∃ x3 : ByteArray, (∃ x4 : ByteArray, (∃ n5 : Int, (∃ x5 : ByteArray, (∃ n6 : Int, (∃ n7 : Int, (∃ n8 : Int, (∃ n9 : Int, ((((Q.rowH m))[(Int.toNat ((j : Nat) : Int))]? = ((Option.some [(AV.s x3), (AV.s x4), (AV.i IntKind.i64 n5), (AV.s x5), (AV.i IntKind.i64 n6), (AV.i IntKind.i64 n7), (AV.i IntKind.i64 n8), (AV.i IntKind.i64 n9)]) : (Option (List AV)))) ∧
 (((List.length (([(AV.s x3)] ++ ([(AV.s x4)] ++ ([] : List AV) : (List AV)) : (List AV)) ++ ([(AV.i IntKind.i64 n5)] ++ ([(AV.s x5)] ++ ([(AV.i IntKind.i64 n6)] ++ ([(AV.i IntKind.i64 n7)] ++ ([(AV.i IntKind.i64 n8)] ++ ([(AV.i IntKind.i64 n9)] ++ ([] : List AV) : (List AV)) : (List AV)) : (List AV)) : (List AV)) : (List AV)) : (List AV)) : (List AV))) = (8 : Nat)) ∧
 ((Bool.true = (Bool.true : Bool)) ∧
 (brP (!(Bool.and (Bool.and (strEq x x3) (Bool.and (strEq x1 x4) Bool.true)) (Bool.and (decide (n = (n5 : Int))) (Bool.and (strEq x2 x5) (Bool.and (decide (n1 = (n6 : Int))) (Bool.and (decide (n2 = (n7 : Int))) (Bool.and (decide (n3 = (n8 : Int))) (Bool.and (decide (n4 = (n9 : Int))) Bool.true)))))))) (((AV.b Bool.false) = (v : AV)) ∧
 (([] : List (Prod Nat Blk)) = (([] : List (Prod Nat Blk)) : Heap))) ((AtL (hd Try.f27 (4 : Nat)) (hd Try.f27 (4 : Nat))) ∧
 (I { t := [(0, (AV.sl (Q.rowH l))), (1, (AV.sl (Q.rowH m))), (4, (AV.b Bool.false)), (5, (AV.i IntKind.i64 (IntKind.wrap IntKind.i64 (((j : Nat) : Int) + (1 : Int) : Int))))], σ := ([] : List (Prod Nat Blk)), n := 0, m := 26 : St})))))))))))))))))))))))))))) (((AV.b Bool.true) = (v : AV)) ∧
 (([] : List (Prod Nat Blk)) = (([] : List (Prod Nat Blk)) : Heap))))
theorem vSLL_eq (l m : List Held) (j : Nat) (I : St → Prop) (v : AV) : vSLL l m j I v = (evL Try.prog T0 Try.f27 [] (atK 0 (hd Try.f27 4) [] [0,1,4,5] I) 4 (iSL l m j) 0 [] v []) := by kernel_rfl

def vSameQ (a b c a' b' c' : Int) (l m : List Held) (v : AV) : Prop :=
 (brP (decide (a = (a' : Int))) (brP (decide (b = (b' : Int))) (brP (decide (c = (c' : Int))) (∃ x : Bool, ((ACalls Try.prog 27 [(AV.sl (Q.rowH l)), (AV.sl (Q.rowH m))] ([] : List (Prod Nat Blk)) (AV.b x) ([] : List (Prod Nat Blk))) ∧
 (((AV.b x) = (v : AV)) ∧
 (([] : List (Prod Nat Blk)) = (([] : List (Prod Nat Blk)) : Heap))))) (((AV.b Bool.false) = (v : AV)) ∧
 (([] : List (Prod Nat Blk)) = (([] : List (Prod Nat Blk)) : Heap)))) (((AV.b Bool.false) = (v : AV)) ∧
 (([] : List (Prod Nat Blk)) = (([] : List (Prod Nat Blk)) : Heap)))) (((AV.b Bool.false) = (v : AV)) ∧
 (([] : List (Prod Nat Blk)) = (([] : List (Prod Nat Blk)) : Heap))))
theorem vSameQ_eq (a b c a' b' c' : Int) (l m : List Held) (v : AV) : vSameQ a b c a' b' c' l m v = (evF Try.prog T0 Try.f12 [] noK [qAV a b c (rowH l), qAV a' b' c' (rowH m)] [] [] v []) := by kernel_rfl

end Go.AM.Q
set_option maxRecDepth 100000
set_option linter.unusedVariables false
set_option linter.unusedSimpArgs false
namespace Go.AM.Q
open Go.Proofs
def heldEq (h k : Held) : Bool := strEq h.p k.p && strEq h.t k.t && decide (h.e = k.e) && strEq h.by' k.by' && decide (h.f = k.f) && decide (h.u = k.u) && decide (h.r = k.r) && decide (h.c = k.c)
def listEq : List Held → List Held → Bool
  | [], [] => true
  | h :: r, k :: s => heldEq h k && listEq r s
  | _, _ => false
theorem listEq_len : ∀ {l m : List Held}, l.length ≠ m.length → listEq l m = false
  | [], [], h => absurd rfl h
  | [], _ :: _, h => rfl
  | _ :: _, [], h => rfl
  | a :: r, b :: s, h => by
    have : r.length ≠ s.length := by simpa using h
    simp [listEq, listEq_len this]
theorem sl_loop (l m : List Held) (hlm : l.length = m.length) (hx : l.length < 9223372036854775807) : ∀ (k j : Nat), l.length - j = k → j ≤ l.length →
    Runs Try.prog 27 0 (hd Try.f27 4) (iSL l m j) (RetR 0 [] (.b (listEq (l.drop j) (m.drop j))) []) := by
  intro k
  induction k with
  | zero =>
    intro j hk hj
    refine runs_vc (vSLL_eq l m j (fun _ => False) _) (by kernel_rfl) (fun todo s h => Runs.head h (fun _ h => h.elim)) ?_
    have hj' : j = l.length := by omega
    have e1 : l.drop j = [] := List.drop_eq_nil_of_le (by omega)
    have e2 : m.drop j = [] := List.drop_eq_nil_of_le (by omega)
    simp only [vSLL, brP_iff, e1, e2, listEq]
    refine ⟨fun h => ?_, fun _ => ⟨by trivial, by trivial⟩⟩
    simp [rowH, hj'] at h
  | succ k ih =>
    intro j hk hj
    have hlt : j < l.length := by omega
    have hlt2 : j < m.length := by omega
    have d1 : l.drop j = l[j] :: l.drop (j+1) := List.drop_eq_getElem_cons hlt
    have d2 : m.drop j = m[j] :: m.drop (j+1) := List.drop_eq_getElem_cons hlt2
    refine runs_vc (vSLL_eq l m j (fun s => s = iSL l m (j+1) ∧ heldEq l[j] m[j] = true) _) (by kernel_rfl) (fun todo s h => Runs.head h ?_) ?_
    · rintro s' ⟨rfl, h0⟩
      have := ih (j+1) (by omega) (by omega)
      rw [d1, d2]
      simpa only [listEq, h0, Bool.true_and] using this
    · simp only [vSLL, brP_iff]
      refine ⟨fun _ => ⟨by omega, by simpa [rowH] using hlt, l[j].p, l[j].t, l[j].e, l[j].by', l[j].f, l[j].u, l[j].r, l[j].c, by simp [rowH, hlt, Held.cells], by simp, by omega, by simpa [rowH] using hlt2,
        m[j].p, m[j].t, m[j].e, m[j].by', m[j].f, m[j].u, m[j].r, m[j].c, by simp [rowH, hlt2, Held.cells], by simp, by trivial, ?_, ?_⟩, fun h => ?_⟩
      · intro h0
        rw [d1, d2]
        have : heldEq l[j] m[j] = false := by
          cases hh : heldEq l[j] m[j] with
          | false => rfl
          | true => simp only [heldEq] at hh; grind
        simp [listEq, this]
      · intro h0
        refine ⟨rfl, ?_, ?_⟩
        · simp only [iSL]
          rw [wrap_id (by omega) (by omega)]
          rfl
        · simp only [heldEq]; grind
      · simp [rowH] at h; omega
theorem sl_calls (l m : List Held) (hx : l.length < 9223372036854775807) : ACalls Try.prog 27 [.sl (rowH l), .sl (rowH m)] [] (.b (listEq l m)) [] :=
  acalls_vc (vSL_eq l m (fun s => s = iSL l m 0 ∧ l.length = m.length) (.b (listEq l m))) (by kernel_rfl) (by kernel_rfl) (fun todo s h => Runs.head h (fun s' ⟨e, hlm⟩ => by subst e; exact sl_loop l m hlm hx _ 0 rfl (Nat.zero_le _))) (by
    simp only [vSL, brP_iff]
    constructor
    · intro h
      have : l.length ≠ m.length := by simp [rowH] at h; omega
      simp [listEq_len this]
    · intro h
      have : l.length = m.length := by simp [rowH] at h; omega
      exact ⟨rfl, rfl, this⟩)
def sameB (a b c a' b' c' : Int) (l m : List Held) : Bool := decide (a = a') && decide (b = b') && decide (c = c') && listEq l m
theorem same_calls (a b c a' b' c' : Int) (l m : List Held) (hx : l.length < 9223372036854775807) : ACalls Try.prog 12 [qAV a b c (rowH l), qAV a' b' c' (rowH m)] [] (.b (sameB a b c a' b' c' l m)) [] :=
  acalls_vc (vSameQ_eq a b c a' b' c' l m (.b (sameB a b c a' b' c' l m))) (by kernel_rfl) (by kernel_rfl) noK_runs (by
    have hc := sl_calls l m hx
    simp only [vSameQ, brP_iff, sameB]
    refine ⟨fun h1 => ⟨fun h2 => ⟨fun h3 => ⟨_, hc, ?_, by trivial⟩, ?_⟩, ?_⟩, ?_⟩ <;> grind)
end Go.AM.Q
set_option maxRecDepth 100000
set_option linter.unusedVariables false
set_option linter.unusedSimpArgs false
namespace Go.AM.Q
open Go.Proofs
def cmpS (x y : ByteArray) : Int := bif Op.bytesLess x.toList y.toList then -1 else bif strEq x y then 0 else 1
theorem cmpS_calls (x y : ByteArray) : ACalls Try.prog 52 [.s x, .s y] [] (.i .i64 (cmpS x y)) [] :=
  acalls_vc (vCmpS_eq x y (.i .i64 (cmpS x y))) (by kernel_rfl) (by kernel_rfl) noK_runs (by
    refine ⟨false, nanS_calls x, false, nanS_calls y, ?_⟩
    simp only [brP_iff, cmpS]
    cases Op.bytesLess x.toList y.toList <;> cases strEq x y <;> simp)
def compareI (h k : Held) : Int := orS [cmpS h.p k.p, cmpS h.t k.t, cmpI h.e k.e, cmpI h.f k.f]
theorem compare_calls (h k : Held) : ACalls Try.prog 29 [.ag h.cells, .ag k.cells] [] (.i .i64 (compareI h k)) [] :=
  acalls_vc (vCompare_eq h.p h.t h.by' h.e h.f h.u h.r h.c k.p k.t k.by' k.e k.f k.u k.r k.c (.i .i64 (compareI h k))) (by kernel_rfl) (by kernel_rfl) noK_runs (by
    refine ⟨_, cmpS_calls h.p k.p, _, cmpS_calls h.t k.t, _, cmpI_calls h.e k.e, _, cmpI_calls h.f k.f, _, or_calls [_, _, _, _] (by simp), by trivial, rfl, rfl⟩)
end Go.AM.Q
set_option maxRecDepth 100000
set_option linter.unusedVariables false
namespace Go.AM.Q
open Go.Proofs
--BEGIN
/-- A map from strings to numbers. -/
def mapSI (pm : List (ByteArray × Int)) : List (AV × AV) := pm.map fun p => (.s p.1, .i .i64 p.2)
def iCk (a b c : Int) (l : List Held) (j : Nat) (pm : List (ByteArray × Int)) : St := { t := [(1, .ptr 0 0), (2, .b false), (3, .mp 1), (19, .sl (rowH l)), (20, .i .i64 (rowH l).length), (21, .i .i64 j)], σ := [(0, .cells [.i .i64 a, .i .i64 b, .i .i64 c, .sl (rowH l)]), (1, .map 54 (mapSI pm))], n := 2, m := 70 }
def vCk (a b c : Int) (l : List Held) (I : St → Prop) (v : AV) : Prop :=
 (∃ x : Bool, ((ACalls Try.prog 25 [(AV.ag [(AV.i IntKind.i64 a), (AV.i IntKind.i64 b), (AV.i IntKind.i64 c), (AV.sl (Q.rowH l))])] ([] : List (Prod Nat Blk)) (AV.b x) ([] : List (Prod Nat Blk))) ∧
 (brP (!x) (((AV.b Bool.false) = (v : AV)) ∧
 (([] : List (Prod Nat Blk)) = (([] : List (Prod Nat Blk)) : Heap))) (brP (decide ((b : Int) < (((List.length (Q.rowH l)) : Nat) : Int))) (((AV.b Bool.false) = (v : AV)) ∧
 (([] : List (Prod Nat Blk)) = (([] : List (Prod Nat Blk)) : Heap))) ((AtL (hd Try.f13 (5 : Nat)) (hd Try.f13 (5 : Nat))) ∧
 (I { t := [(1, (AV.ptr 0 0)), (2, (AV.b Bool.false)), (3, (AV.mp 1)), (19, (AV.sl (Q.rowH l))), (20, (AV.i IntKind.i64 (((List.length (Q.rowH l)) : Nat) : Int))), (21, (AV.i IntKind.i64 (0 : Int)))], σ := [(0, (Blk.cells [(AV.i IntKind.i64 a), (AV.i IntKind.i64 b), (AV.i IntKind.i64 c), (AV.sl (Q.rowH l))])), (1, (Blk.map 54 ([] : List (Prod AV AV))))], n := 2, m := 70 : St}))))))
theorem vCk_eq (a b c : Int) (l : List Held) (I : St → Prop) (v : AV) : vCk a b c l I v = (evF Try.prog T0 Try.f13 [] (atK 0 (hd Try.f13 5) [0,13] [1,2,3,19,20,21] I) [qAV a b c (rowH l)] [] [] v []) := by kernel_rfl

def vCkL (a b c : Int) (l : List Held) (j : Nat) (pm : List (ByteArray × Int)) (I : St → Prop) (v : AV) : Prop :=
 (brP (decide ((((j : Nat) : Int) : Int) < (((List.length (Q.rowH l)) : Nat) : Int))) ((((0 : Int) : Int) ≤ ((j : Nat) : Int)) ∧
 (((((j : Nat) : Int) : Int) < (((List.length (Q.rowH l)) : Nat) : Int)) ∧
 (∃ x : ByteArray, (∃ x1 : ByteArray, (∃ n : Int, (∃ x2 : ByteArray, (∃ n1 : Int, (∃ n2 : Int, (∃ n3 : Int, (∃ n4 : Int, ((((Q.rowH l))[(Int.toNat ((j : Nat) : Int))]? = ((Option.some [(AV.s x), (AV.s x1), (AV.i IntKind.i64 n), (AV.s x2), (AV.i IntKind.i64 n1), (AV.i IntKind.i64 n2), (AV.i IntKind.i64 n3), (AV.i IntKind.i64 n4)]) : (Option (List AV)))) ∧
 (((List.length (([(AV.s x)] ++ ([(AV.s x1)] ++ ([] : List AV) : (List AV)) : (List AV)) ++ ([(AV.i IntKind.i64 n)] ++ ([(AV.s x2)] ++ ([(AV.i IntKind.i64 n1)] ++ ([(AV.i IntKind.i64 n2)] ++ ([(AV.i IntKind.i64 n3)] ++ ([(AV.i IntKind.i64 n4)] ++ ([] : List AV) : (List AV)) : (List AV)) : (List AV)) : (List AV)) : (List AV)) : (List AV)) : (List AV))) = (8 : Nat)) ∧
 ((∀ (p : (Prod AV AV)), ((List.Mem p (Q.mapSI pm)) → ((keyOk (AV.s x2) (p).1) = (Bool.true : Bool)))) ∧
 (∃ n5 : Int, (((Option.getD (mget (AV.s x2) (Q.mapSI pm)) (AV.i IntKind.i64 (0 : Int))) = ((AV.i IntKind.i64 n5) : AV)) ∧
 ((∀ (p : (Prod AV AV)), ((List.Mem p (Q.mapSI pm)) → ((keyOk (AV.s x2) (p).1) = (Bool.true : Bool)))) ∧
 (∃ x3 : Bool, ((ACalls Try.prog 28 [(AV.ag [(AV.i IntKind.i64 a), (AV.i IntKind.i64 b), (AV.i IntKind.i64 c), (AV.sl (Q.rowH l))]), (AV.ag [(AV.s x), (AV.s x1), (AV.i IntKind.i64 n), (AV.s x2), (AV.i IntKind.i64 n1), (AV.i IntKind.i64 n2), (AV.i IntKind.i64 n3), (AV.i IntKind.i64 n4)])] ([] : List (Prod Nat Blk)) (AV.b x3) ([] : List (Prod Nat Blk))) ∧
 (brP (!x3) ((Bool.true = (Bool.true : Bool)) ∧
 (((AV.b Bool.false) = (v : AV)) ∧
 (([] : List (Prod Nat Blk)) = (([] : List (Prod Nat Blk)) : Heap)))) ((∀ (p : (Prod AV AV)), ((List.Mem p (mset (AV.s x2) (AV.i IntKind.i64 (IntKind.wrap IntKind.i64 (n5 + (1 : Int) : Int))) (Q.mapSI pm))) → ((keyOk (AV.s x2) (p).1) = (Bool.true : Bool)))) ∧
 (∃ n6 : Int, (((Option.getD (mget (AV.s x2) (mset (AV.s x2) (AV.i IntKind.i64 (IntKind.wrap IntKind.i64 (n5 + (1 : Int) : Int))) (Q.mapSI pm))) (AV.i IntKind.i64 (0 : Int))) = ((AV.i IntKind.i64 n6) : AV)) ∧
 (brP (decide ((a : Int) < n6)) ((Bool.true = (Bool.true : Bool)) ∧
 (((AV.b Bool.false) = (v : AV)) ∧
 (([] : List (Prod Nat Blk)) = (([] : List (Prod Nat Blk)) : Heap)))) (brP (decide (((0 : Int) : Int) < ((j : Nat) : Int))) ((((0 : Int) : Int) ≤ (IntKind.wrap IntKind.i64 (((j : Nat) : Int) - (1 : Int) : Int))) ∧
 ((((IntKind.wrap IntKind.i64 (((j : Nat) : Int) - (1 : Int) : Int)) : Int) < (((List.length (Q.rowH l)) : Nat) : Int)) ∧
 (∃ x4 : ByteArray, (∃ x5 : ByteArray, (∃ n7 : Int, (∃ x6 : ByteArray, (∃ n8 : Int, (∃ n9 : Int, (∃ n10 : Int, (∃ n11 : Int, ((((Q.rowH l))[(Int.toNat (IntKind.wrap IntKind.i64 (((j : Nat) : Int) - (1 : Int) : Int)))]? = ((Option.some [(AV.s x4), (AV.s x5), (AV.i IntKind.i64 n7), (AV.s x6), (AV.i IntKind.i64 n8), (AV.i IntKind.i64 n9), (AV.i IntKind.i64 n10), (AV.i IntKind.i64 n11)]) : (Option (List AV)))) ∧
 (((List.length (([(AV.s x4)] ++ ([(AV.s x5)] ++ ([] : List AV) : (List AV)) : (List AV)) ++ ([(AV.i IntKind.i64 n7)] ++ ([(AV.s x6)] ++ ([(AV.i IntKind.i64 n8)] ++ ([(AV.i IntKind.i64 n9)] ++ ([(AV.i IntKind.i64 n10)] ++ ([(AV.i IntKind.i64 n11)] ++ ([] : List AV) : (List AV)) : (List AV)) : (List AV)) : (List AV)) : (List AV)) : (List AV)) : (List AV))) = (8 : Nat)) ∧
 (∃ n12 : Int, ((ACalls Try.prog 29 [(AV.ag [(AV.s x4), (AV.s x5), (AV.i IntKind.i64 n7), (AV.s x6), (AV.i IntKind.i64 n8), (AV.i IntKind.i64 n9), (AV.i IntKind.i64 n10), (AV.i IntKind.i64 n11)]), (AV.ag [(AV.s x), (AV.s x1), (AV.i IntKind.i64 n), (AV.s x2), (AV.i IntKind.i64 n1), (AV.i IntKind.i64 n2), (AV.i IntKind.i64 n3), (AV.i IntKind.i64 n4)])] ([] : List (Prod Nat Blk)) (AV.i IntKind.i64 n12) ([] : List (Prod Nat Blk))) ∧
 (brP (decide (((0 : Int) : Int) ≤ n12)) ((Bool.true = (Bool.true : Bool)) ∧
 (((AV.b Bool.false) = (v : AV)) ∧
 (([] : List (Prod Nat Blk)) = (([] : List (Prod Nat Blk)) : Heap)))) ((((0 : Int) : Int) ≤ (IntKind.wrap IntKind.i64 (((j : Nat) : Int) - (1 : Int) : Int))) ∧
 ((((IntKind.wrap IntKind.i64 (((j : Nat) : Int) - (1 : Int) : Int)) : Int) < (((List.length (Q.rowH l)) : Nat) : Int)) ∧
 (∃ x7 : ByteArray, (∃ x8 : ByteArray, (∃ n13 : Int, (∃ x9 : ByteArray, (∃ n14 : Int, (∃ n15 : Int, (∃ n16 : Int, (∃ n17 : Int, ((((Q.rowH l))[(Int.toNat (IntKind.wrap IntKind.i64 (((j : Nat) : Int) - (1 : Int) : Int)))]? = ((Option.some [(AV.s x7), (AV.s x8), (AV.i IntKind.i64 n13), (AV.s x9), (AV.i IntKind.i64 n14), (AV.i IntKind.i64 n15), (AV.i IntKind.i64 n16), (AV.i IntKind.i64 n17)]) : (Option (List AV)))) ∧
 (((List.length (([(AV.s x7)] ++ ([(AV.s x8)] ++ ([] : List AV) : (List AV)) : (List AV)) ++ ([(AV.i IntKind.i64 n13)] ++ ([(AV.s x9)] ++ ([(AV.i IntKind.i64 n14)] ++ ([(AV.i IntKind.i64 n15)] ++ ([(AV.i IntKind.i64 n16)] ++ ([(AV.i IntKind.i64 n17)] ++ ([] : List AV) : (List AV)) : (List AV)) : (List AV)) : (List AV)) : (List AV)) : (List AV)) : (List AV))) = (8 : Nat)) ∧
 (∃ x10 : Bool, ((ACalls Try.prog 30 [(AV.ag [(AV.s x7), (AV.s x8), (AV.i IntKind.i64 n13), (AV.s x9), (AV.i IntKind.i64 n14), (AV.i IntKind.i64 n15), (AV.i IntKind.i64 n16), (AV.i IntKind.i64 n17)]), (AV.ag [(AV.s x), (AV.s x1), (AV.i IntKind.i64 n), (AV.s x2), (AV.i IntKind.i64 n1), (AV.i IntKind.i64 n2), (AV.i IntKind.i64 n3), (AV.i IntKind.i64 n4)])] ([] : List (Prod Nat Blk)) (AV.b x10) ([] : List (Prod Nat Blk))) ∧
 ((Bool.true = (Bool.true : Bool)) ∧
 (brP x10 (((AV.b Bool.false) = (v : AV)) ∧
 (([] : List (Prod Nat Blk)) = (([] : List (Prod Nat Blk)) : Heap))) ((AtL (hd Try.f13 (5 : Nat)) (hd Try.f13 (5 : Nat))) ∧
 (I { t := [(1, (AV.ptr 0 0)), (2, (AV.b Bool.false)), (3, (AV.mp 1)), (19, (AV.sl (Q.rowH l))), (20, (AV.i IntKind.i64 (((List.length (Q.rowH l)) : Nat) : Int))), (21, (AV.i IntKind.i64 (IntKind.wrap IntKind.i64 (((j : Nat) : Int) + (1 : Int) : Int))))], σ := [(0, (Blk.cells [(AV.i IntKind.i64 a), (AV.i IntKind.i64 b), (AV.i IntKind.i64 c), (AV.sl (Q.rowH l))])), (1, (Blk.map 54 (mset (AV.s x2) (AV.i IntKind.i64 (IntKind.wrap IntKind.i64 (n5 + (1 : Int) : Int))) (Q.mapSI pm))))], n := 2, m := 70 : St}))))))))))))))))))))))))))))))))) ((Bool.true = (Bool.true : Bool)) ∧
 ((AtL (hd Try.f13 (5 : Nat)) (hd Try.f13 (5 : Nat))) ∧
 (I { t := [(1, (AV.ptr 0 0)), (2, (AV.b Bool.false)), (3, (AV.mp 1)), (19, (AV.sl (Q.rowH l))), (20, (AV.i IntKind.i64 (((List.length (Q.rowH l)) : Nat) : Int))), (21, (AV.i IntKind.i64 (IntKind.wrap IntKind.i64 (((j : Nat) : Int) + (1 : Int) : Int))))], σ := [(0, (Blk.cells [(AV.i IntKind.i64 a), (AV.i IntKind.i64 b), (AV.i IntKind.i64 c), (AV.sl (Q.rowH l))])), (1, (Blk.map 54 (mset (AV.s x2) (AV.i IntKind.i64 (IntKind.wrap IntKind.i64 (n5 + (1 : Int) : Int))) (Q.mapSI pm))))], n := 2, m := 70 : St}))))))))))))))))))))))))))) (((AV.b Bool.true) = (v : AV)) ∧
 (([] : List (Prod Nat Blk)) = (([] : List (Prod Nat Blk)) : Heap))))
theorem vCkL_eq (a b c : Int) (l : List Held) (j : Nat) (pm : List (ByteArray × Int)) (I : St → Prop) (v : AV) : vCkL a b c l j pm I v = (evL Try.prog T0 Try.f13 [] (atK 0 (hd Try.f13 5) [0,1] [1,2,3,19,20,21] I) 5 (iCk a b c l j pm) 0 [] v []) := by kernel_rfl

end Go.AM.Q
set_option maxRecDepth 100000
set_option linter.unusedVariables false
set_option linter.unusedSimpArgs false
namespace Go.AM.Q
open Go.Proofs
theorem rowH_get {l : List Held} {j : Nat} (h : j < l.length) : (rowH l)[j]? = some (l[j]).cells := by simp [rowH, h]
theorem rowH_len (l : List Held) : (rowH l).length = l.length := by simp [rowH]
theorem rowH_all (l : List Held) : ∀ x ∈ rowH l, x.length = 8 := by
  intro x hx
  obtain ⟨h, _, rfl⟩ := List.mem_map.1 hx
  rfl
theorem mapSI_ok (k : ByteArray) (pm : List (ByteArray × Int)) : ∀ p, List.Mem p (mapSI pm) → keyOk (.s k) p.1 = true := by
  intro p hp
  obtain ⟨q, _, rfl⟩ := List.mem_map.1 (show p ∈ mapSI pm from hp)
  rfl
def pfind (k : ByteArray) : List (ByteArray × Int) → Nat → Option (Nat × Int)
  | [], _ => none
  | (a, v) :: r, i => bif strEq k a then some (i, v) else pfind k r (i + 1)
def pget (k : ByteArray) (pm : List (ByteArray × Int)) : Int := ((pfind k pm 0).map (·.2)).getD 0
def pset (k : ByteArray) (v : Int) (pm : List (ByteArray × Int)) : List (ByteArray × Int) :=
  match pfind k pm 0 with
  | some (j, _) => pm.set j (k, v)
  | none => pm ++ [(k, v)]
theorem mfind_map (k : ByteArray) : ∀ (pm : List (ByteArray × Int)) (i : Nat), mfind (.s k) (mapSI pm) i = (pfind k pm i).map fun p => (p.1, .i .i64 p.2)
  | [], i => rfl
  | (a, v) :: r, i => by
    show (bif strEq k a then some (i, AV.i .i64 v) else mfind (.s k) (mapSI r) (i + 1)) = Option.map _ (bif strEq k a then some (i, v) else pfind k r (i + 1))
    rw [mfind_map k r (i + 1)]
    cases strEq k a <;> rfl
theorem mget_map (k : ByteArray) (pm : List (ByteArray × Int)) : (mget (.s k) (mapSI pm)).getD (.i .i64 0) = .i .i64 (pget k pm) := by
  unfold mget pget
  rw [mfind_map]
  cases pfind k pm 0 <;> rfl
theorem mset_map (k : ByteArray) (v : Int) (pm : List (ByteArray × Int)) : mset (.s k) (.i .i64 v) (mapSI pm) = mapSI (pset k v pm) := by
  unfold mset pset
  rw [mfind_map]
  cases pfind k pm 0 with
  | none => simp [mapSI]
  | some p => simp [mapSI, List.map_set]
theorem strEq_iff {x y : ByteArray} : strEq x y = true ↔ x = y := by simp [strEq]
theorem strEq_ne {x y : ByteArray} : strEq x y = false ↔ x ≠ y := by simp [strEq]
theorem pfind_spec (k : ByteArray) : ∀ (pm : List (ByteArray × Int)) (i j : Nat) (v : Int), pfind k pm i = some (j, v) → i ≤ j ∧ pm[j - i]? = some (k, v) ∧ ∀ q, q < j - i → ∀ p, pm[q]? = some p → p.1 ≠ k
  | [], i, j, v, h => by simp [pfind] at h
  | (a, u) :: r, i, j, v, h => by
    unfold pfind at h
    cases hs : strEq k a with
    | true =>
      rw [hs] at h
      simp only [cond_true, Option.some.injEq, Prod.mk.injEq] at h
      obtain ⟨rfl, rfl⟩ := h
      rw [strEq_iff] at hs
      subst hs
      refine ⟨Nat.le_refl _, by simp, fun q hq => by omega⟩
    | false =>
      rw [hs] at h
      rw [strEq_ne] at hs
      obtain ⟨h1, h2, h3⟩ := pfind_spec k r (i + 1) j v h
      have e : j - i = (j - (i + 1)) + 1 := by omega
      refine ⟨by omega, by rw [e]; simpa using h2, fun q hq p hp => ?_⟩
      cases q with
      | zero => simp at hp; subst hp; exact fun h => hs h.symm
      | succ q => exact h3 q (by omega) p (by simpa using hp)
theorem pfind_none (k : ByteArray) : ∀ (pm : List (ByteArray × Int)) (i : Nat), pfind k pm i = none ↔ ∀ p ∈ pm, p.1 ≠ k
  | [], i => by simp [pfind]
  | (a, u) :: r, i => by
    unfold pfind
    cases hs : strEq k a with
    | true => rw [strEq_iff] at hs; subst hs; simp
    | false =>
      rw [strEq_ne] at hs
      rw [cond_false, pfind_none k r (i + 1)]
      simp only [List.mem_cons, forall_eq_or_imp]
      exact ⟨fun h => ⟨fun e => hs e.symm, h⟩, fun h => h.2⟩
theorem pfind_at (k : ByteArray) : ∀ (pm : List (ByteArray × Int)) (i j : Nat) (v : Int), pm[j]? = some (k, v) → (∀ q, q < j → ∀ p, pm[q]? = some p → p.1 ≠ k) → pfind k pm i = some (i + j, v)
  | [], i, j, v, h, _ => by simp at h
  | (a, u) :: r, i, 0, v, h, _ => by
    simp at h
    obtain ⟨rfl, rfl⟩ := h
    simp [pfind, strEq_self]
  | (a, u) :: r, i, j + 1, v, h, hq => by
    have ha : a ≠ k := hq 0 (by omega) (a, u) rfl
    have hs : strEq k a = false := strEq_ne.2 (fun e => ha e.symm)
    unfold pfind
    rw [hs, cond_false, pfind_at k r (i + 1) j v (by simpa using h) (fun q h1 p h2 => hq (q + 1) (by omega) p (by simpa using h2))]
    congr 2
    omega
theorem pget_pset (k o : ByteArray) (v : Int) (pm : List (ByteArray × Int)) : pget o (pset k v pm) = if o = k then v else pget o pm := by
  unfold pset
  cases hf : pfind k pm 0 with
  | none =>
    rw [pfind_none] at hf
    by_cases ho : o = k
    · subst ho
      have : pfind o (pm ++ [(o, v)]) 0 = some (0 + pm.length, v) := pfind_at o _ 0 pm.length v (by simp) (fun q hq p hp => hf p (by rw [List.getElem?_append_left hq] at hp; exact List.mem_of_getElem? hp))
      simp [pget, this]
    · rw [if_neg ho]
      unfold pget
      congr 2
      cases hp : pfind o pm 0 with
      | none =>
        rw [pfind_none] at hp ⊢
        intro p hm
        rcases List.mem_append.1 hm with h | h
        · exact hp p h
        · simp at h; subst h; exact fun e => ho e.symm
      | some q =>
        obtain ⟨j, u⟩ := q
        obtain ⟨_, h2, h3⟩ := pfind_spec o pm 0 j u hp
        have hj := (List.getElem?_eq_some_iff.1 h2).1
        rw [Nat.sub_zero] at h2 h3 hj
        have := pfind_at o (pm ++ [(k, v)]) 0 j u (by rw [List.getElem?_append_left hj]; exact h2) (fun q hq p hp => h3 q hq p (by rwa [List.getElem?_append_left (by omega)] at hp))
        simpa using this
  | some q =>
    obtain ⟨j, u⟩ := q
    obtain ⟨_, h2, h3⟩ := pfind_spec k pm 0 j u hf
    rw [Nat.sub_zero] at h2 h3
    have hj := (List.getElem?_eq_some_iff.1 h2).1
    by_cases ho : o = k
    · subst ho
      have : pfind o (pm.set j (o, v)) 0 = some (0 + j, v) := pfind_at o _ 0 j v (by simp [hj]) (fun q hq p hp => h3 q hq p (by rwa [List.getElem?_set_ne (by omega)] at hp))
      simp [pget, this]
    · rw [if_neg ho]
      unfold pget
      congr 2
      cases hp : pfind o pm 0 with
      | none =>
        rw [pfind_none] at hp ⊢
        intro p hm
        rcases List.mem_or_eq_of_mem_set hm with h | h
        · exact hp p h
        · subst h; exact fun e => ho e.symm
      | some q =>
        obtain ⟨i, u'⟩ := q
        obtain ⟨_, g2, g3⟩ := pfind_spec o pm 0 i u' hp
        rw [Nat.sub_zero] at g2 g3
        have hij : j ≠ i := by
          rintro rfl
          rw [h2] at g2
          simp at g2
          exact ho g2.1.symm
        have := pfind_at o (pm.set j (k, v)) 0 i u' (by rw [List.getElem?_set_ne hij]; exact g2) (fun q hq p hp => by
          by_cases hqj : j = q
          · subst hqj
            rw [List.getElem?_set_self (by omega)] at hp
            simp at hp
            subst hp
            exact fun e => ho e.symm
          · rw [List.getElem?_set_ne hqj] at hp
            exact g3 q hq p hp)
        simpa using this

/-- How many entries an owner has. -/
def cntO (o : ByteArray) (l : List Held) : Nat := (l.filter fun h => strEq h.by' o).length
theorem cntO_le (o : ByteArray) (l : List Held) : cntO o l ≤ l.length := List.length_filter_le _ _
theorem cntO_snoc (o : ByteArray) (l : List Held) (h : Held) : cntO o (l ++ [h]) = cntO o l + if h.by' = o then 1 else 0 := by
  unfold cntO
  rw [List.filter_append, List.length_append]
  by_cases e : h.by' = o
  · simp [e, strEq_self]
  · simp [e, strEq_ne.2 e]
/-- The entries from one on are right behind those that were seen. -/
def ckFrom (a c : Int) (seen : List Held) : List Held → Bool
  | [] => true
  | x :: r => entryB c x && decide ((cntO x.by' (seen ++ [x]) : Int) ≤ a) && (match seen.getLast? with | none => true | some p => decide (compareI p x < 0) && !meetsB p x) && ckFrom a c (seen ++ [x]) r
def checkB (a b c : Int) (l : List Held) : Bool := sizesB a b c && decide ((l.length : Int) ≤ b) && ckFrom a c [] l

theorem ck_loop (a b c : Int) (l : List Held) (hl : l.length ≤ 32) : ∀ (k j : Nat) (pm : List (ByteArray × Int)), l.length - j = k → j ≤ l.length → (∀ o, pget o pm = cntO o (l.take j)) →
    Runs Try.prog 13 0 (hd Try.f13 5) (iCk a b c l j pm) (RetR 0 [] (.b (ckFrom a c (l.take j) (l.drop j))) []) := by
  intro k
  induction k with
  | zero =>
    intro j pm hk hj hp
    have hj' : j = l.length := by omega
    subst hj'
    refine runs_vc (vCkL_eq a b c l _ pm (fun _ => False) _) (by kernel_rfl) (fun todo s h => Runs.head h (fun _ h => h.elim)) ?_
    simp [vCkL, brP_iff, rowH_len, ckFrom]
  | succ k ih =>
    intro j pm hk hj hp
    have hlt : j < l.length := by omega
    have hd : l.drop j = l[j] :: l.drop (j+1) := List.drop_eq_getElem_cons hlt
    have htk : l.take j ++ [l[j]] = l.take (j+1) := (List.take_succ_eq_append_getElem hlt).symm
    have hcnt := cntO_le l[j].by' (l.take j)
    have hcl : (l.take j).length ≤ 32 := by simp; omega
    have hw : IntKind.i64.wrap (pget l[j].by' pm + 1) = (cntO l[j].by' (l.take (j+1)) : Int) := by
      rw [hp, wrap_id (by omega) (by omega), ← htk, cntO_snoc, if_pos rfl]
      simp
    refine runs_vc (vCkL_eq a b c l j pm (fun s => s = iCk a b c l (j+1) (pset l[j].by' (cntO l[j].by' (l.take (j+1))) pm) ∧ ckFrom a c (l.take j) (l.drop j) = ckFrom a c (l.take (j+1)) (l.drop (j+1))) _) (by kernel_rfl) (fun todo s h => Runs.head h ?_) ?_
    · rintro s' ⟨rfl, h0⟩
      rw [h0]
      refine ih (j+1) _ (by omega) (by omega) (fun o => ?_)
      rw [pget_pset]
      by_cases ho : o = l[j].by'
      · rw [if_pos ho, ho]
      · rw [if_neg ho, hp, ← htk, cntO_snoc, if_neg (fun e => ho e.symm)]
        simp
    · have hge := rowH_get hlt
      have hprev : 0 < j → (rowH l)[(IntKind.i64.wrap ((j : Int) - 1)).toNat]? = some (l[j-1]).cells ∧ (l.take j).getLast? = some l[j-1] ∧ 0 ≤ IntKind.i64.wrap ((j : Int) - 1) ∧ IntKind.i64.wrap ((j : Int) - 1) < ((rowH l).length : Int) := by
        intro h0
        rw [wrap_id (by omega) (by omega)]
        have e : ((j : Int) - 1).toNat = j - 1 := by omega
        rw [e, rowH_len]
        refine ⟨rowH_get (by omega), ?_, by omega, by omega⟩
        obtain ⟨q, rfl⟩ : ∃ q, j = q + 1 := ⟨j - 1, by omega⟩
        rw [List.take_succ_eq_append_getElem (by omega)]
        exact List.getLast?_concat
      have hnone : ¬ 0 < j → (l.take j).getLast? = none := by
        intro h0
        have : j = 0 := by omega
        subst this
        simp
      have hfold : ckFrom a c (l.take j) (l.drop j) = (entryB c l[j] && decide ((cntO l[j].by' (l.take (j+1)) : Int) ≤ a) && (match (l.take j).getLast? with | none => true | some p => decide (compareI p l[j] < 0) && !meetsB p l[j]) && ckFrom a c (l.take (j+1)) (l.drop (j+1))) := by
        rw [hd, ckFrom, htk]
      have hend : IntKind.i64.wrap ((j : Int) + 1) = ((j + 1 : Nat) : Int) := by rw [wrap_id (by omega) (by omega)]; simp
      have hmid : ∀ o, mget (.s o) (mapSI pm) = mget (.s o) (mapSI pm) := fun _ => rfl
      generalize hx : l[j] = x at *
      simp only [vCkL, brP_iff, hw, hend, mset_map, mget_map]
      refine ⟨fun _ => ⟨by omega, by rw [rowH_len]; omega, x.p, x.t, x.e, x.by', x.f, x.u, x.r, x.c, hge, rfl, mapSI_ok _ _, pget x.by' pm, rfl, mapSI_ok _ _, entryB c x, entry_calls a b c _ x, ?_⟩, fun h => by simp [rowH_len] at h; omega⟩
      rw [hfold]
      refine ⟨fun h => ⟨by trivial, ?_, by trivial⟩, fun h => ⟨mapSI_ok _ _, (cntO x.by' (l.take (j+1)) : Int), ?_, fun h2 => ⟨by trivial, ?_, by trivial⟩, fun h2 => ⟨fun h3 => ?_, fun h3 => ⟨by trivial, by trivial, by simp only [iCk, hw, mset_map, hend], ?_⟩⟩⟩⟩
      · have : entryB c x = false := by simpa using h
        rw [this]
        rfl
      · rw [pget_pset, if_pos rfl, hw]
      · have : decide ((cntO x.by' (l.take (j+1)) : Int) ≤ a) = false := by simp at h2 ⊢; omega
        rw [this]
        simp
      · have h3' : 0 < j := by simpa using h3
        obtain ⟨g1, g2, g3, g4⟩ := hprev h3'
        have hcb : compareI l[j-1] x = compareI l[j-1] x := rfl
        have e1 : entryB c x = true := by simpa using h
        have e2 : decide ((cntO x.by' (l.take (j+1)) : Int) ≤ a) = true := by simp at h2 ⊢; omega
        refine ⟨g3, g4, _, _, _, _, _, _, _, _, g1, rfl, compareI l[j-1] x, compare_calls _ _, fun h4 => ⟨by trivial, ?_, by trivial⟩, fun h4 => ⟨g3, g4, _, _, _, _, _, _, _, _, g1, rfl, meetsB l[j-1] x, meets_calls _ _, by trivial, fun h5 => ⟨?_, by trivial⟩, fun h5 => ⟨by trivial, by simp only [iCk, hw, mset_map, hend], ?_⟩⟩⟩
        · have e3 : decide (compareI l[j-1] x < 0) = false := by simp at h4 ⊢; omega
          rw [g2]
          simp [e3]
        · rw [g2]
          simp [h5]
        · have e3 : decide (compareI l[j-1] x < 0) = true := by simp at h4 ⊢; omega
          rw [g2]
          simp [e1, e2, e3, h5]
      · have h3' : ¬ 0 < j := by simpa using h3
        have e1 : entryB c x = true := by simpa using h
        have e2 : decide ((cntO x.by' (l.take (j+1)) : Int) ≤ a) = true := by simp at h2 ⊢; omega
        rw [hnone h3']
        simp [e1, e2]

theorem check_calls (a b c : Int) (l : List Held) : ACalls Try.prog 13 [qAV a b c (rowH l)] [] (.b (checkB a b c l)) [] :=
  acalls_vc (vCk_eq a b c l (fun s => s = iCk a b c l 0 [] ∧ checkB a b c l = ckFrom a c [] l ∧ l.length ≤ 32) (.b (checkB a b c l))) (by kernel_rfl) (by kernel_rfl) (fun todo s h => Runs.head h (fun s' e => by
    obtain ⟨rfl, e1, e2⟩ := e
    rw [e1]
    exact ck_loop a b c l e2 _ 0 [] rfl (Nat.zero_le _) (fun o => by simp [pget, pfind, cntO]))) (by
    simp only [vCk, brP_iff, rowH_len]
    refine ⟨sizesB a b c, sizes_calls a b c _, fun h => ⟨?_, by trivial⟩, fun h => ⟨fun h2 => ⟨?_, by trivial⟩, fun h2 => ⟨by trivial, ?_, ?_, ?_⟩⟩⟩
    · have : sizesB a b c = false := by simpa using h
      simp [checkB, this]
    · have : decide ((l.length : Int) ≤ b) = false := by simp at h2 ⊢; omega
      simp [checkB, this]
    · simp only [iCk, rowH_len]; rfl
    · have e1 : sizesB a b c = true := by simpa using h
      have e2 : decide ((l.length : Int) ≤ b) = true := by simp at h2 ⊢; omega
      simp [checkB, e1, e2]
    · have e1 : sizesB a b c = true := by simpa using h
      simp only [sizesB, Bool.and_eq_true, decide_eq_true_eq] at e1
      simp at h2
      omega)
end Go.AM.Q
