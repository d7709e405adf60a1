/- Quarantine: conditions of the library's functions on entries, of closures, of Load and find. Quarantine: contracts of closures, of the library's functions on entries, of Load, find and Active. Quarantine: conditions of slices.Insert and slices.Delete on entries. Quarantine: slices.Clone, slices.Insert and slices.Delete on entries. Quarantine: conditions of Add, Renew, Release, Charge, Expire. Quarantine: contracts of Add, Renew, Release, Charge and Expire. -/
import Derived.Test.YthcpekjcnokonaaZ1
import Derived.KernelRfl
import Derived.Lib.Overlaps
set_option maxRecDepth 100000
set_option linter.unusedVariables false
namespace Go.AM.Q
open Go.Proofs
--BEGIN
/-- A moment of a test. -/
structure Mom where
  p : ByteArray
  t : ByteArray
  e : Int
  now : Int
def Mom.cells (m : Mom) : List AV := [.s m.p, .s m.t, .i .i64 m.e, .i .i64 m.now]
/-- A call whose outcome is known by its arguments. -/
def detS (frz : Nat → Bool) (f : List AV → Heap → Option (AV × Heap)) : CSpec :=
  { frz := frz, ex := fun a σ K => match f a σ with
      | some p => K p.1 p.2
      | none => False
    ok := fun a σ K h => by
      cases hf : f a σ with
      | none => rw [hf] at h; exact h.elim
      | some p => rw [hf] at h; exact ⟨p.1, p.2, h, fun K' hk => hk⟩ }
def cloneS (e sz : Nat) : CSpec := detS (fun _ => true) fun a σ => match a with
  | [.sl xs] => some (.own 0, [(0, .row e sz xs)])
  | _ => none
def insertS : CSpec := detS (fun _ => false) fun a σ => match a, σ with
  | [.own 0, .i _ i, .own 1], [(0, .row e sz xs), (1, .row _ _ ys)] => some (.own 2, [(2, .row e sz (xs.take i.toNat ++ ys ++ xs.drop i.toNat))])
  | _, _ => none
def deleteS : CSpec := detS (fun _ => false) fun a σ => match a, σ with
  | [.own 0, .i _ i, .i _ j], [(0, .row e sz xs)] => some (.own 1, [(1, .row e sz (xs.take i.toNat ++ xs.drop j.toNat))])
  | _, _ => none
/-- A closure that is handed a place of a row, and says two things. -/
def placeS (k : IntKind) : CSpec :=
  { frz := fun n => !Nat.beq n 0, ex := fun a σ K => match a, σ with
      | .eptr 0 _ _ _ :: _, [(0, .row e sz xs)] => ∃ b n xs', K (.tup [.b b, .i k n]) [(0, .row e sz xs')]
      | _, _ => False
    ok := fun a σ K h => by
      split at h
      · obtain ⟨b, n, xs', h⟩ := h
        exact ⟨_, _, h, fun K' hk => ⟨b, n, xs', hk⟩⟩
      · exact h.elim }
def TQ : Nat → Option CSpec := fun n =>
  bif Nat.beq n 50 then some (cloneS 41 8) else
  bif Nat.beq n 49 then some insertS else
  bif Nat.beq n 68 then some deleteS else
  bif Nat.beq n 54 then some (placeS .i64) else
  bif Nat.beq n 41 then some (placeS .i64) else
  bif Nat.beq n 43 then some (placeS .i64) else none
def vHeldM (m : Mom) (h : Held) (v : AV) : Prop :=
 (brP (Bool.and (strEq (h).1 (m).1) (Bool.and (strEq (h).2 (m).2) Bool.true)) (brP (decide ((h).3 = ((m).3 : Int))) (brP (decide (((h).5 : Int) ≤ (m).4)) (((AV.b (decide (((m).4 : Int) < (h).6))) = (v : AV)) ∧
 (([] : List (Prod Nat Blk)) = (([] : List (Prod Nat Blk)) : Heap))) (((AV.b Bool.false) = (v : AV)) ∧
 (([] : List (Prod Nat Blk)) = (([] : List (Prod Nat Blk)) : Heap)))) (((AV.b Bool.false) = (v : AV)) ∧
 (([] : List (Prod Nat Blk)) = (([] : List (Prod Nat Blk)) : Heap)))) (((AV.b Bool.false) = (v : AV)) ∧
 (([] : List (Prod Nat Blk)) = (([] : List (Prod Nat Blk)) : Heap))))
theorem vHeldM_eq (m : Mom) (h : Held) (v : AV) : vHeldM m h v = (evF Try.prog T0 Try.f70 [] noK [.ag m.cells, .ag h.cells] [] [] v []) := by kernel_rfl

def vAdd1 (x h : Held) (v : AV) : Prop :=
 (∃ x1 : Bool, ((ACalls Try.prog 30 [(AV.ag [(AV.s (x).1), (AV.s (x).2), (AV.i IntKind.i64 (x).3), (AV.s (x).4), (AV.i IntKind.i64 (x).5), (AV.i IntKind.i64 (x).6), (AV.i IntKind.i64 (x).7), (AV.i IntKind.i64 (x).8)]), (AV.ag [(AV.s (h).1), (AV.s (h).2), (AV.i IntKind.i64 (h).3), (AV.s (h).4), (AV.i IntKind.i64 (h).5), (AV.i IntKind.i64 (h).6), (AV.i IntKind.i64 (h).7), (AV.i IntKind.i64 (h).8)])] ([] : List (Prod Nat Blk)) (AV.b x1) ([] : List (Prod Nat Blk))) ∧
 (((AV.b x1) = (v : AV)) ∧
 (([] : List (Prod Nat Blk)) = (([] : List (Prod Nat Blk)) : Heap)))))
theorem vAdd1_eq (x h : Held) (v : AV) : vAdd1 x h v = (evF Try.prog T0 Try.f46 [] noK [.ag h.cells, .pp x.cells] [] [] v []) := by kernel_rfl

def vAdd2 (x h : Held) (v : AV) : Prop :=
 (∃ n : Int, ((ACalls Try.prog 29 [(AV.ag [(AV.s (x).1), (AV.s (x).2), (AV.i IntKind.i64 (x).3), (AV.s (x).4), (AV.i IntKind.i64 (x).5), (AV.i IntKind.i64 (x).6), (AV.i IntKind.i64 (x).7), (AV.i IntKind.i64 (x).8)]), (AV.ag [(AV.s (h).1), (AV.s (h).2), (AV.i IntKind.i64 (h).3), (AV.s (h).4), (AV.i IntKind.i64 (h).5), (AV.i IntKind.i64 (h).6), (AV.i IntKind.i64 (h).7), (AV.i IntKind.i64 (h).8)])] ([] : List (Prod Nat Blk)) (AV.i IntKind.i64 n) ([] : List (Prod Nat Blk))) ∧
 (((AV.i IntKind.i64 n) = (v : AV)) ∧
 (([] : List (Prod Nat Blk)) = (([] : List (Prod Nat Blk)) : Heap)))))
theorem vAdd2_eq (x h : Held) (v : AV) : vAdd2 x h v = (evF Try.prog T0 Try.f48 [] noK [.ag x.cells, .ag h.cells] [] [] v []) := by kernel_rfl

def vRen11 (h was longer : Held) (v : AV) : Prop :=
 (brP (!(Bool.and (Bool.and (strEq (h).1 (was).1) (Bool.and (strEq (h).2 (was).2) Bool.true)) (Bool.and (decide ((h).3 = ((was).3 : Int))) (Bool.and (strEq (h).4 (was).4) (Bool.and (decide ((h).5 = ((was).5 : Int))) (Bool.and (decide ((h).6 = ((was).6 : Int))) (Bool.and (decide ((h).7 = ((was).7 : Int))) (Bool.and (decide ((h).8 = ((was).8 : Int))) Bool.true)))))))) (∃ x : Bool, ((ACalls Try.prog 30 [(AV.ag [(AV.s (longer).1), (AV.s (longer).2), (AV.i IntKind.i64 (longer).3), (AV.s (longer).4), (AV.i IntKind.i64 (longer).5), (AV.i IntKind.i64 (longer).6), (AV.i IntKind.i64 (longer).7), (AV.i IntKind.i64 (longer).8)]), (AV.ag [(AV.s (h).1), (AV.s (h).2), (AV.i IntKind.i64 (h).3), (AV.s (h).4), (AV.i IntKind.i64 (h).5), (AV.i IntKind.i64 (h).6), (AV.i IntKind.i64 (h).7), (AV.i IntKind.i64 (h).8)])] ([] : List (Prod Nat Blk)) (AV.b x) ([] : List (Prod Nat Blk))) ∧
 (((AV.b x) = (v : AV)) ∧
 (([] : List (Prod Nat Blk)) = (([] : List (Prod Nat Blk)) : Heap))))) (((AV.b Bool.false) = (v : AV)) ∧
 (([] : List (Prod Nat Blk)) = (([] : List (Prod Nat Blk)) : Heap))))
theorem vRen11_eq (h was longer : Held) (v : AV) : vRen11 h was longer v = (evF Try.prog T0 Try.f55 [] noK [.ag h.cells, .pp was.cells, .pp longer.cells] [] [] v []) := by kernel_rfl

def iIx (l : List Held) (g : AV) (j : Nat) : St := { t := [(0, .sl (rowH l)), (1, g), (4, .i .i64 0), (7, .i .i64 (rowH l).length), (8, .i .i64 j)], σ := [], n := 0, m := 19 }
def vIxH (m : Mom) (l : List Held) (I : St → Prop) (v : AV) : Prop :=
 ((AtL (hd Try.f69 (2 : Nat)) (hd Try.f69 (2 : Nat))) ∧
 (I { t := [(0, (AV.sl (Q.rowH l))), (1, (AV.fn 70 [(AV.ag [(AV.s (m).1), (AV.s (m).2), (AV.i IntKind.i64 (m).3), (AV.i IntKind.i64 (m).4)])] ([] : List AV))), (4, (AV.i IntKind.i64 (0 : Int))), (7, (AV.i IntKind.i64 (((List.length (Q.rowH l)) : Nat) : Int))), (8, (AV.i IntKind.i64 (0 : Int)))], σ := ([] : List (Prod Nat Blk)), n := 0, m := 19 : St}))
theorem vIxH_eq (m : Mom) (l : List Held) (I : St → Prop) (v : AV) : vIxH m l I v = (evF Try.prog T0 Try.f69 [] (atK 0 (hd Try.f69 2) [] [0,1,4,7,8] I) [.sl (rowH l), (.fn 70 [.ag m.cells] [])] [] [] v []) := by kernel_rfl

def vIxLH (m : Mom) (l : List Held) (j : Nat) (I : St → Prop) (v : AV) : Prop :=
 (brP (decide ((((j : Nat) : Int) : Int) < (((List.length (Q.rowH l)) : Nat) : Int))) ((((0 : Int) : Int) ≤ ((j : Nat) : Int)) ∧
 (((((j : Nat) : Int) : Int) < (((List.length (Q.rowH l)) : Nat) : Int)) ∧
 (∃ x : ByteArray, (∃ x1 : ByteArray, (∃ n : Int, (∃ x2 : ByteArray, (∃ n1 : Int, (∃ n2 : Int, (∃ n3 : Int, (∃ n4 : Int, ((((Q.rowH l))[(Int.toNat ((j : Nat) : Int))]? = ((Option.some [(AV.s x), (AV.s x1), (AV.i IntKind.i64 n), (AV.s x2), (AV.i IntKind.i64 n1), (AV.i IntKind.i64 n2), (AV.i IntKind.i64 n3), (AV.i IntKind.i64 n4)]) : (Option (List AV)))) ∧
 (((List.length (([(AV.s x)] ++ ([(AV.s x1)] ++ ([] : List AV) : (List AV)) : (List AV)) ++ ([(AV.i IntKind.i64 n)] ++ ([(AV.s x2)] ++ ([(AV.i IntKind.i64 n1)] ++ ([(AV.i IntKind.i64 n2)] ++ ([(AV.i IntKind.i64 n3)] ++ ([(AV.i IntKind.i64 n4)] ++ ([] : List AV) : (List AV)) : (List AV)) : (List AV)) : (List AV)) : (List AV)) : (List AV)) : (List AV))) = (8 : Nat)) ∧
 (∃ x3 : Bool, ((ACalls Try.prog 70 [(AV.ag [(AV.s (m).1), (AV.s (m).2), (AV.i IntKind.i64 (m).3), (AV.i IntKind.i64 (m).4)]), (AV.ag [(AV.s x), (AV.s x1), (AV.i IntKind.i64 n), (AV.s x2), (AV.i IntKind.i64 n1), (AV.i IntKind.i64 n2), (AV.i IntKind.i64 n3), (AV.i IntKind.i64 n4)])] ([] : List (Prod Nat Blk)) (AV.b x3) ([] : List (Prod Nat Blk))) ∧
 (brP x3 (((AV.i IntKind.i64 ((j : Nat) : Int)) = (v : AV)) ∧
 (([] : List (Prod Nat Blk)) = (([] : List (Prod Nat Blk)) : Heap))) ((AtL (hd Try.f69 (2 : Nat)) (hd Try.f69 (2 : Nat))) ∧
 (I { t := [(0, (AV.sl (Q.rowH l))), (1, (AV.fn 70 [(AV.ag [(AV.s (m).1), (AV.s (m).2), (AV.i IntKind.i64 (m).3), (AV.i IntKind.i64 (m).4)])] ([] : List AV))), (4, (AV.i IntKind.i64 (0 : Int))), (7, (AV.i IntKind.i64 (((List.length (Q.rowH l)) : Nat) : Int))), (8, (AV.i IntKind.i64 (IntKind.wrap IntKind.i64 (((j : Nat) : Int) + (1 : Int) : Int))))], σ := ([] : List (Prod Nat Blk)), n := 0, m := 19 : St}))))))))))))))))) (((AV.i IntKind.i64 (-1 : Int)) = (v : AV)) ∧
 (([] : List (Prod Nat Blk)) = (([] : List (Prod Nat Blk)) : Heap))))
theorem vIxLH_eq (m : Mom) (l : List Held) (j : Nat) (I : St → Prop) (v : AV) : vIxLH m l j I v = (evL Try.prog T0 Try.f69 [] (atK 0 (hd Try.f69 2) [] [0,1,4,7,8] I) 2 (iIx l (.fn 70 [.ag m.cells] []) j) 0 [] v []) := by kernel_rfl

def vCfH (m : Mom) (l : List Held) (v : AV) : Prop :=
 (∃ n : Int, ((ACalls Try.prog 69 [(AV.sl (Q.rowH l)), (AV.fn 70 [(AV.ag [(AV.s (m).1), (AV.s (m).2), (AV.i IntKind.i64 (m).3), (AV.i IntKind.i64 (m).4)])] ([] : List AV))] ([] : List (Prod Nat Blk)) (AV.i IntKind.i64 n) ([] : List (Prod Nat Blk))) ∧
 (((AV.b (decide (((0 : Int) : Int) ≤ n))) = (v : AV)) ∧
 (([] : List (Prod Nat Blk)) = (([] : List (Prod Nat Blk)) : Heap)))))
theorem vCfH_eq (m : Mom) (l : List Held) (v : AV) : vCfH m l v = (evF Try.prog T0 Try.f45 [] noK [.sl (rowH l), (.fn 70 [.ag m.cells] [])] [] [] v []) := by kernel_rfl

def vIxA (x : Held) (l : List Held) (I : St → Prop) (v : AV) : Prop :=
 ((AtL (hd Try.f69 (2 : Nat)) (hd Try.f69 (2 : Nat))) ∧
 (I { t := [(0, (AV.sl (Q.rowH l))), (1, (AV.fn 46 ([] : List AV) [(AV.pp [(AV.s (x).1), (AV.s (x).2), (AV.i IntKind.i64 (x).3), (AV.s (x).4), (AV.i IntKind.i64 (x).5), (AV.i IntKind.i64 (x).6), (AV.i IntKind.i64 (x).7), (AV.i IntKind.i64 (x).8)])])), (4, (AV.i IntKind.i64 (0 : Int))), (7, (AV.i IntKind.i64 (((List.length (Q.rowH l)) : Nat) : Int))), (8, (AV.i IntKind.i64 (0 : Int)))], σ := ([] : List (Prod Nat Blk)), n := 0, m := 19 : St}))
theorem vIxA_eq (x : Held) (l : List Held) (I : St → Prop) (v : AV) : vIxA x l I v = (evF Try.prog T0 Try.f69 [] (atK 0 (hd Try.f69 2) [] [0,1,4,7,8] I) [.sl (rowH l), (.fn 46 [] [.pp x.cells])] [] [] v []) := by kernel_rfl

def vIxLA (x : Held) (l : List Held) (j : Nat) (I : St → Prop) (v : AV) : Prop :=
 (brP (decide ((((j : Nat) : Int) : Int) < (((List.length (Q.rowH l)) : Nat) : Int))) ((((0 : Int) : Int) ≤ ((j : Nat) : Int)) ∧
 (((((j : Nat) : Int) : Int) < (((List.length (Q.rowH l)) : Nat) : Int)) ∧
 (∃ x1 : ByteArray, (∃ x2 : ByteArray, (∃ n : Int, (∃ x3 : ByteArray, (∃ n1 : Int, (∃ n2 : Int, (∃ n3 : Int, (∃ n4 : Int, ((((Q.rowH l))[(Int.toNat ((j : Nat) : Int))]? = ((Option.some [(AV.s x1), (AV.s x2), (AV.i IntKind.i64 n), (AV.s x3), (AV.i IntKind.i64 n1), (AV.i IntKind.i64 n2), (AV.i IntKind.i64 n3), (AV.i IntKind.i64 n4)]) : (Option (List AV)))) ∧
 (((List.length (([(AV.s x1)] ++ ([(AV.s x2)] ++ ([] : List AV) : (List AV)) : (List AV)) ++ ([(AV.i IntKind.i64 n)] ++ ([(AV.s x3)] ++ ([(AV.i IntKind.i64 n1)] ++ ([(AV.i IntKind.i64 n2)] ++ ([(AV.i IntKind.i64 n3)] ++ ([(AV.i IntKind.i64 n4)] ++ ([] : List AV) : (List AV)) : (List AV)) : (List AV)) : (List AV)) : (List AV)) : (List AV)) : (List AV))) = (8 : Nat)) ∧
 (∃ x4 : Bool, ((ACalls Try.prog 46 [(AV.ag [(AV.s x1), (AV.s x2), (AV.i IntKind.i64 n), (AV.s x3), (AV.i IntKind.i64 n1), (AV.i IntKind.i64 n2), (AV.i IntKind.i64 n3), (AV.i IntKind.i64 n4)]), (AV.pp [(AV.s (x).1), (AV.s (x).2), (AV.i IntKind.i64 (x).3), (AV.s (x).4), (AV.i IntKind.i64 (x).5), (AV.i IntKind.i64 (x).6), (AV.i IntKind.i64 (x).7), (AV.i IntKind.i64 (x).8)])] ([] : List (Prod Nat Blk)) (AV.b x4) ([] : List (Prod Nat Blk))) ∧
 (brP x4 (((AV.i IntKind.i64 ((j : Nat) : Int)) = (v : AV)) ∧
 (([] : List (Prod Nat Blk)) = (([] : List (Prod Nat Blk)) : Heap))) ((AtL (hd Try.f69 (2 : Nat)) (hd Try.f69 (2 : Nat))) ∧
 (I { t := [(0, (AV.sl (Q.rowH l))), (1, (AV.fn 46 ([] : List AV) [(AV.pp [(AV.s (x).1), (AV.s (x).2), (AV.i IntKind.i64 (x).3), (AV.s (x).4), (AV.i IntKind.i64 (x).5), (AV.i IntKind.i64 (x).6), (AV.i IntKind.i64 (x).7), (AV.i IntKind.i64 (x).8)])])), (4, (AV.i IntKind.i64 (0 : Int))), (7, (AV.i IntKind.i64 (((List.length (Q.rowH l)) : Nat) : Int))), (8, (AV.i IntKind.i64 (IntKind.wrap IntKind.i64 (((j : Nat) : Int) + (1 : Int) : Int))))], σ := ([] : List (Prod Nat Blk)), n := 0, m := 19 : St}))))))))))))))))) (((AV.i IntKind.i64 (-1 : Int)) = (v : AV)) ∧
 (([] : List (Prod Nat Blk)) = (([] : List (Prod Nat Blk)) : Heap))))
theorem vIxLA_eq (x : Held) (l : List Held) (j : Nat) (I : St → Prop) (v : AV) : vIxLA x l j I v = (evL Try.prog T0 Try.f69 [] (atK 0 (hd Try.f69 2) [] [0,1,4,7,8] I) 2 (iIx l (.fn 46 [] [.pp x.cells]) j) 0 [] v []) := by kernel_rfl

def vCfA (x : Held) (l : List Held) (v : AV) : Prop :=
 (∃ n : Int, ((ACalls Try.prog 69 [(AV.sl (Q.rowH l)), (AV.fn 46 ([] : List AV) [(AV.pp [(AV.s (x).1), (AV.s (x).2), (AV.i IntKind.i64 (x).3), (AV.s (x).4), (AV.i IntKind.i64 (x).5), (AV.i IntKind.i64 (x).6), (AV.i IntKind.i64 (x).7), (AV.i IntKind.i64 (x).8)])])] ([] : List (Prod Nat Blk)) (AV.i IntKind.i64 n) ([] : List (Prod Nat Blk))) ∧
 (((AV.b (decide (((0 : Int) : Int) ≤ n))) = (v : AV)) ∧
 (([] : List (Prod Nat Blk)) = (([] : List (Prod Nat Blk)) : Heap)))))
theorem vCfA_eq (x : Held) (l : List Held) (v : AV) : vCfA x l v = (evF Try.prog T0 Try.f45 [] noK [.sl (rowH l), (.fn 46 [] [.pp x.cells])] [] [] v []) := by kernel_rfl

def vIxR (x y : Held) (l : List Held) (I : St → Prop) (v : AV) : Prop :=
 ((AtL (hd Try.f69 (2 : Nat)) (hd Try.f69 (2 : Nat))) ∧
 (I { t := [(0, (AV.sl (Q.rowH l))), (1, (AV.fn 55 ([] : List AV) [(AV.pp [(AV.s (x).1), (AV.s (x).2), (AV.i IntKind.i64 (x).3), (AV.s (x).4), (AV.i IntKind.i64 (x).5), (AV.i IntKind.i64 (x).6), (AV.i IntKind.i64 (x).7), (AV.i IntKind.i64 (x).8)]), (AV.pp [(AV.s (y).1), (AV.s (y).2), (AV.i IntKind.i64 (y).3), (AV.s (y).4), (AV.i IntKind.i64 (y).5), (AV.i IntKind.i64 (y).6), (AV.i IntKind.i64 (y).7), (AV.i IntKind.i64 (y).8)])])), (4, (AV.i IntKind.i64 (0 : Int))), (7, (AV.i IntKind.i64 (((List.length (Q.rowH l)) : Nat) : Int))), (8, (AV.i IntKind.i64 (0 : Int)))], σ := ([] : List (Prod Nat Blk)), n := 0, m := 19 : St}))
theorem vIxR_eq (x y : Held) (l : List Held) (I : St → Prop) (v : AV) : vIxR x y l I v = (evF Try.prog T0 Try.f69 [] (atK 0 (hd Try.f69 2) [] [0,1,4,7,8] I) [.sl (rowH l), (.fn 55 [] [.pp x.cells, .pp y.cells])] [] [] v []) := by kernel_rfl

def vIxLR (x y : Held) (l : List Held) (j : Nat) (I : St → Prop) (v : AV) : Prop :=
 (brP (decide ((((j : Nat) : Int) : Int) < (((List.length (Q.rowH l)) : Nat) : Int))) ((((0 : Int) : Int) ≤ ((j : Nat) : Int)) ∧
 (((((j : Nat) : Int) : Int) < (((List.length (Q.rowH l)) : Nat) : Int)) ∧
 (∃ x1 : ByteArray, (∃ x2 : ByteArray, (∃ n : Int, (∃ x3 : ByteArray, (∃ n1 : Int, (∃ n2 : Int, (∃ n3 : Int, (∃ n4 : Int, ((((Q.rowH l))[(Int.toNat ((j : Nat) : Int))]? = ((Option.some [(AV.s x1), (AV.s x2), (AV.i IntKind.i64 n), (AV.s x3), (AV.i IntKind.i64 n1), (AV.i IntKind.i64 n2), (AV.i IntKind.i64 n3), (AV.i IntKind.i64 n4)]) : (Option (List AV)))) ∧
 (((List.length (([(AV.s x1)] ++ ([(AV.s x2)] ++ ([] : List AV) : (List AV)) : (List AV)) ++ ([(AV.i IntKind.i64 n)] ++ ([(AV.s x3)] ++ ([(AV.i IntKind.i64 n1)] ++ ([(AV.i IntKind.i64 n2)] ++ ([(AV.i IntKind.i64 n3)] ++ ([(AV.i IntKind.i64 n4)] ++ ([] : List AV) : (List AV)) : (List AV)) : (List AV)) : (List AV)) : (List AV)) : (List AV)) : (List AV))) = (8 : Nat)) ∧
 (∃ x4 : Bool, ((ACalls Try.prog 55 [(AV.ag [(AV.s x1), (AV.s x2), (AV.i IntKind.i64 n), (AV.s x3), (AV.i IntKind.i64 n1), (AV.i IntKind.i64 n2), (AV.i IntKind.i64 n3), (AV.i IntKind.i64 n4)]), (AV.pp [(AV.s (x).1), (AV.s (x).2), (AV.i IntKind.i64 (x).3), (AV.s (x).4), (AV.i IntKind.i64 (x).5), (AV.i IntKind.i64 (x).6), (AV.i IntKind.i64 (x).7), (AV.i IntKind.i64 (x).8)]), (AV.pp [(AV.s (y).1), (AV.s (y).2), (AV.i IntKind.i64 (y).3), (AV.s (y).4), (AV.i IntKind.i64 (y).5), (AV.i IntKind.i64 (y).6), (AV.i IntKind.i64 (y).7), (AV.i IntKind.i64 (y).8)])] ([] : List (Prod Nat Blk)) (AV.b x4) ([] : List (Prod Nat Blk))) ∧
 (brP x4 (((AV.i IntKind.i64 ((j : Nat) : Int)) = (v : AV)) ∧
 (([] : List (Prod Nat Blk)) = (([] : List (Prod Nat Blk)) : Heap))) ((AtL (hd Try.f69 (2 : Nat)) (hd Try.f69 (2 : Nat))) ∧
 (I { t := [(0, (AV.sl (Q.rowH l))), (1, (AV.fn 55 ([] : List AV) [(AV.pp [(AV.s (x).1), (AV.s (x).2), (AV.i IntKind.i64 (x).3), (AV.s (x).4), (AV.i IntKind.i64 (x).5), (AV.i IntKind.i64 (x).6), (AV.i IntKind.i64 (x).7), (AV.i IntKind.i64 (x).8)]), (AV.pp [(AV.s (y).1), (AV.s (y).2), (AV.i IntKind.i64 (y).3), (AV.s (y).4), (AV.i IntKind.i64 (y).5), (AV.i IntKind.i64 (y).6), (AV.i IntKind.i64 (y).7), (AV.i IntKind.i64 (y).8)])])), (4, (AV.i IntKind.i64 (0 : Int))), (7, (AV.i IntKind.i64 (((List.length (Q.rowH l)) : Nat) : Int))), (8, (AV.i IntKind.i64 (IntKind.wrap IntKind.i64 (((j : Nat) : Int) + (1 : Int) : Int))))], σ := ([] : List (Prod Nat Blk)), n := 0, m := 19 : St}))))))))))))))))) (((AV.i IntKind.i64 (-1 : Int)) = (v : AV)) ∧
 (([] : List (Prod Nat Blk)) = (([] : List (Prod Nat Blk)) : Heap))))
theorem vIxLR_eq (x y : Held) (l : List Held) (j : Nat) (I : St → Prop) (v : AV) : vIxLR x y l j I v = (evL Try.prog T0 Try.f69 [] (atK 0 (hd Try.f69 2) [] [0,1,4,7,8] I) 2 (iIx l (.fn 55 [] [.pp x.cells, .pp y.cells]) j) 0 [] v []) := by kernel_rfl

def vCfR (x y : Held) (l : List Held) (v : AV) : Prop :=
 (∃ n : Int, ((ACalls Try.prog 69 [(AV.sl (Q.rowH l)), (AV.fn 55 ([] : List AV) [(AV.pp [(AV.s (x).1), (AV.s (x).2), (AV.i IntKind.i64 (x).3), (AV.s (x).4), (AV.i IntKind.i64 (x).5), (AV.i IntKind.i64 (x).6), (AV.i IntKind.i64 (x).7), (AV.i IntKind.i64 (x).8)]), (AV.pp [(AV.s (y).1), (AV.s (y).2), (AV.i IntKind.i64 (y).3), (AV.s (y).4), (AV.i IntKind.i64 (y).5), (AV.i IntKind.i64 (y).6), (AV.i IntKind.i64 (y).7), (AV.i IntKind.i64 (y).8)])])] ([] : List (Prod Nat Blk)) (AV.i IntKind.i64 n) ([] : List (Prod Nat Blk))) ∧
 (((AV.b (decide (((0 : Int) : Int) ≤ n))) = (v : AV)) ∧
 (([] : List (Prod Nat Blk)) = (([] : List (Prod Nat Blk)) : Heap)))))
theorem vCfR_eq (x y : Held) (l : List Held) (v : AV) : vCfR x y l v = (evF Try.prog T0 Try.f45 [] noK [.sl (rowH l), (.fn 55 [] [.pp x.cells, .pp y.cells])] [] [] v []) := by kernel_rfl

def vFind (a b c : Int) (l : List Held) (m : Mom) (v : AV) : Prop :=
 (∃ n : Int, ((ACalls Try.prog 69 [(AV.sl (Q.rowH l)), (AV.fn 70 [(AV.ag [(AV.s (m).1), (AV.s (m).2), (AV.i IntKind.i64 (m).3), (AV.i IntKind.i64 (m).4)])] ([] : List AV))] ([] : List (Prod Nat Blk)) (AV.i IntKind.i64 n) ([] : List (Prod Nat Blk))) ∧
 (((AV.i IntKind.i64 n) = (v : AV)) ∧
 (([] : List (Prod Nat Blk)) = (([] : List (Prod Nat Blk)) : Heap)))))
theorem vFind_eq (a b c : Int) (l : List Held) (m : Mom) (v : AV) : vFind a b c l m v = (evF Try.prog T0 Try.f42 [] noK [qAV a b c (rowH l), .ag [.s m.p, .s m.t], .i .i64 m.e, .i .i64 m.now] [] [] v []) := by kernel_rfl

def iLd (a b c : Int) (l : List Held) (o : ByteArray) (j : Nat) (n : Int) : St := { t := [(1, .s o), (4, .i .i64 0), (5, .i .i64 n), (12, .sl (rowH l)), (13, .i .i64 (rowH l).length), (14, .i .i64 j)], σ := [], n := 0, m := 26 }
def vLoad (a b c : Int) (l : List Held) (o : ByteArray) (I : St → Prop) (v : AV) : Prop :=
 (∃ x : Bool, ((ACalls Try.prog 13 [(AV.ag [(AV.i IntKind.i64 a), (AV.i IntKind.i64 b), (AV.i IntKind.i64 c), (AV.sl (Q.rowH l))])] ([] : List (Prod Nat Blk)) (AV.b x) ([] : List (Prod Nat Blk))) ∧
 (brP (!x) (((AV.i IntKind.i64 (0 : Int)) = (v : AV)) ∧
 (([] : List (Prod Nat Blk)) = (([] : List (Prod Nat Blk)) : Heap))) ((AtL (hd Try.f20 (5 : Nat)) (hd Try.f20 (5 : Nat))) ∧
 (I { t := [(1, (AV.s o)), (4, (AV.i IntKind.i64 (0 : Int))), (5, (AV.i IntKind.i64 (0 : Int))), (12, (AV.sl (Q.rowH l))), (13, (AV.i IntKind.i64 (((List.length (Q.rowH l)) : Nat) : Int))), (14, (AV.i IntKind.i64 (0 : Int)))], σ := ([] : List (Prod Nat Blk)), n := 0, m := 26 : St})))))
theorem vLoad_eq (a b c : Int) (l : List Held) (o : ByteArray) (I : St → Prop) (v : AV) : vLoad a b c l o I v = (evF Try.prog T0 Try.f20 [] (atK 0 (hd Try.f20 5) [] [1,4,5,12,13,14] I) [qAV a b c (rowH l), .s o] [] [] v []) := by kernel_rfl

def vLoadL (a b c : Int) (l : List Held) (o : ByteArray) (j : Nat) (n : Int) (I : St → Prop) (v : AV) : Prop :=
 (brP (decide ((((j : Nat) : Int) : Int) < (((List.length (Q.rowH l)) : Nat) : Int))) ((((0 : Int) : Int) ≤ ((j : Nat) : Int)) ∧
 (((((j : Nat) : Int) : Int) < (((List.length (Q.rowH l)) : Nat) : Int)) ∧
 (∃ x : ByteArray, (∃ x1 : ByteArray, (∃ n1 : Int, (∃ x2 : ByteArray, (∃ n2 : Int, (∃ n3 : Int, (∃ n4 : Int, (∃ n5 : Int, ((((Q.rowH l))[(Int.toNat ((j : Nat) : Int))]? = ((Option.some [(AV.s x), (AV.s x1), (AV.i IntKind.i64 n1), (AV.s x2), (AV.i IntKind.i64 n2), (AV.i IntKind.i64 n3), (AV.i IntKind.i64 n4), (AV.i IntKind.i64 n5)]) : (Option (List AV)))) ∧
 (((List.length (([(AV.s x)] ++ ([(AV.s x1)] ++ ([] : List AV) : (List AV)) : (List AV)) ++ ([(AV.i IntKind.i64 n1)] ++ ([(AV.s x2)] ++ ([(AV.i IntKind.i64 n2)] ++ ([(AV.i IntKind.i64 n3)] ++ ([(AV.i IntKind.i64 n4)] ++ ([(AV.i IntKind.i64 n5)] ++ ([] : List AV) : (List AV)) : (List AV)) : (List AV)) : (List AV)) : (List AV)) : (List AV)) : (List AV))) = (8 : Nat)) ∧
 (brP (strEq x2 o) ((AtL (hd Try.f20 (5 : Nat)) (hd Try.f20 (5 : Nat))) ∧
 (I { t := [(1, (AV.s o)), (4, (AV.i IntKind.i64 (0 : Int))), (5, (AV.i IntKind.i64 (IntKind.wrap IntKind.i64 (n + (1 : Int) : Int)))), (12, (AV.sl (Q.rowH l))), (13, (AV.i IntKind.i64 (((List.length (Q.rowH l)) : Nat) : Int))), (14, (AV.i IntKind.i64 (IntKind.wrap IntKind.i64 (((j : Nat) : Int) + (1 : Int) : Int))))], σ := ([] : List (Prod Nat Blk)), n := 0, m := 26 : St})) ((AtL (hd Try.f20 (5 : Nat)) (hd Try.f20 (5 : Nat))) ∧
 (I { t := [(1, (AV.s o)), (4, (AV.i IntKind.i64 (0 : Int))), (5, (AV.i IntKind.i64 n)), (12, (AV.sl (Q.rowH l))), (13, (AV.i IntKind.i64 (((List.length (Q.rowH l)) : Nat) : Int))), (14, (AV.i IntKind.i64 (IntKind.wrap IntKind.i64 (((j : Nat) : Int) + (1 : Int) : Int))))], σ := ([] : List (Prod Nat Blk)), n := 0, m := 26 : St}))))))))))))))) (((AV.i IntKind.i64 n) = (v : AV)) ∧
 (([] : List (Prod Nat Blk)) = (([] : List (Prod Nat Blk)) : Heap))))
theorem vLoadL_eq (a b c : Int) (l : List Held) (o : ByteArray) (j : Nat) (n : Int) (I : St → Prop) (v : AV) : vLoadL a b c l o j n I v = (evL Try.prog T0 Try.f20 [] (atK 0 (hd Try.f20 5) [] [1,4,5,12,13,14] I) 5 (iLd a b c l o j n) 0 [] v []) := by kernel_rfl

def vActive (a b c : Int) (l : List Held) (m : Mom) (v : AV) : Prop :=
 (∃ x : Bool, ((ACalls Try.prog 13 [(AV.ag [(AV.i IntKind.i64 a), (AV.i IntKind.i64 b), (AV.i IntKind.i64 c), (AV.sl (Q.rowH l))])] ([] : List (Prod Nat Blk)) (AV.b x) ([] : List (Prod Nat Blk))) ∧
 (brP (!x) (((AV.tup [(AV.ag [(AV.s (ByteArray.mk (Array.mk ([] : List UInt8)))), (AV.s (ByteArray.mk (Array.mk ([] : List UInt8)))), (AV.i IntKind.i64 (0 : Int)), (AV.s (ByteArray.mk (Array.mk ([] : List UInt8)))), (AV.i IntKind.i64 (0 : Int)), (AV.i IntKind.i64 (0 : Int)), (AV.i IntKind.i64 (0 : Int)), (AV.i IntKind.i64 (0 : Int))]), (AV.b Bool.false)]) = (v : AV)) ∧
 (([] : List (Prod Nat Blk)) = (([] : List (Prod Nat Blk)) : Heap))) (∃ n : Int, ((ACalls Try.prog 42 [(AV.ag [(AV.i IntKind.i64 a), (AV.i IntKind.i64 b), (AV.i IntKind.i64 c), (AV.sl (Q.rowH l))]), (AV.ag [(AV.s (m).1), (AV.s (m).2)]), (AV.i IntKind.i64 (m).3), (AV.i IntKind.i64 (m).4)] ([] : List (Prod Nat Blk)) (AV.i IntKind.i64 n) ([] : List (Prod Nat Blk))) ∧
 (brP (decide ((n : Int) < (0 : Int))) (((AV.tup [(AV.ag [(AV.s (ByteArray.mk (Array.mk ([] : List UInt8)))), (AV.s (ByteArray.mk (Array.mk ([] : List UInt8)))), (AV.i IntKind.i64 (0 : Int)), (AV.s (ByteArray.mk (Array.mk ([] : List UInt8)))), (AV.i IntKind.i64 (0 : Int)), (AV.i IntKind.i64 (0 : Int)), (AV.i IntKind.i64 (0 : Int)), (AV.i IntKind.i64 (0 : Int))]), (AV.b Bool.false)]) = (v : AV)) ∧
 (([] : List (Prod Nat Blk)) = (([] : List (Prod Nat Blk)) : Heap))) ((((0 : Int) : Int) ≤ n) ∧
 (((n : Int) < (((List.length (Q.rowH l)) : Nat) : Int)) ∧
 (∃ x1 : ByteArray, (∃ x2 : ByteArray, (∃ n1 : Int, (∃ x3 : ByteArray, (∃ n2 : Int, (∃ n3 : Int, (∃ n4 : Int, (∃ n5 : Int, ((((Q.rowH l))[(Int.toNat n)]? = ((Option.some [(AV.s x1), (AV.s x2), (AV.i IntKind.i64 n1), (AV.s x3), (AV.i IntKind.i64 n2), (AV.i IntKind.i64 n3), (AV.i IntKind.i64 n4), (AV.i IntKind.i64 n5)]) : (Option (List AV)))) ∧
 (((List.length (([(AV.s x1)] ++ ([(AV.s x2)] ++ ([] : List AV) : (List AV)) : (List AV)) ++ ([(AV.i IntKind.i64 n1)] ++ ([(AV.s x3)] ++ ([(AV.i IntKind.i64 n2)] ++ ([(AV.i IntKind.i64 n3)] ++ ([(AV.i IntKind.i64 n4)] ++ ([(AV.i IntKind.i64 n5)] ++ ([] : List AV) : (List AV)) : (List AV)) : (List AV)) : (List AV)) : (List AV)) : (List AV)) : (List AV))) = (8 : Nat)) ∧
 (((AV.tup [(AV.ag [(AV.s x1), (AV.s x2), (AV.i IntKind.i64 n1), (AV.s x3), (AV.i IntKind.i64 n2), (AV.i IntKind.i64 n3), (AV.i IntKind.i64 n4), (AV.i IntKind.i64 n5)]), (AV.b Bool.true)]) = (v : AV)) ∧
 (([] : List (Prod Nat Blk)) = (([] : List (Prod Nat Blk)) : Heap)))))))))))))))))))))
theorem vActive_eq (a b c : Int) (l : List Held) (m : Mom) (v : AV) : vActive a b c l m v = (evF Try.prog T0 Try.f22 [] noK [qAV a b c (rowH l), .ag [.s m.p, .s m.t], .i .i64 m.e, .i .i64 m.now] [] [] v []) := by kernel_rfl

def iBs (l : List Held) (x : Held) (i j : Nat) : St := { t := [(0, .sl (rowH l)), (2, .fn 48 [] []), (4, .ptr 0 0), (6, .i .i64 0), (7, .b false), (8, .i .i64 (rowH l).length), (9, .i .i64 i), (10, .i .i64 j)], σ := [(0, .cells x.cells)], n := 1, m := 49 }
def vBs (l : List Held) (x : Held) (I : St → Prop) (v : AV) : Prop :=
 ((AtL (hd Try.f47 (3 : Nat)) (hd Try.f47 (3 : Nat))) ∧
 (I { t := [(0, (AV.sl (Q.rowH l))), (2, (AV.fn 48 ([] : List AV) ([] : List AV))), (4, (AV.ptr 0 0)), (6, (AV.i IntKind.i64 (0 : Int))), (7, (AV.b Bool.false)), (8, (AV.i IntKind.i64 (((List.length (Q.rowH l)) : Nat) : Int))), (9, (AV.i IntKind.i64 (0 : Int))), (10, (AV.i IntKind.i64 (((List.length (Q.rowH l)) : Nat) : Int)))], σ := [(0, (Blk.cells [(AV.s (x).1), (AV.s (x).2), (AV.i IntKind.i64 (x).3), (AV.s (x).4), (AV.i IntKind.i64 (x).5), (AV.i IntKind.i64 (x).6), (AV.i IntKind.i64 (x).7), (AV.i IntKind.i64 (x).8)]))], n := 1, m := 49 : St}))
theorem vBs_eq (l : List Held) (x : Held) (I : St → Prop) (v : AV) : vBs l x I v = (evF Try.prog T0 Try.f47 [] (atK 0 (hd Try.f47 3) [0] [0,2,4,6,7,8,9,10] I) [.sl (rowH l), .ag x.cells, .fn 48 [] []] [] [] v []) := by kernel_rfl

def vBsL (l : List Held) (x : Held) (i j : Nat) (I : St → Prop) (v : AV) : Prop :=
 (brP (decide ((((i : Nat) : Int) : Int) < ((j : Nat) : Int))) ((((0 : Int) : Int) ≤ (1 : Int)) ∧
 ((((0 : Int) : Int) ≤ (IntKind.wrap IntKind.i64 (Int.fdiv (IntKind.wrap IntKind.u64 (IntKind.wrap IntKind.i64 (((i : Nat) : Int) + ((j : Nat) : Int) : Int))) (2 : Int)))) ∧
 ((((IntKind.wrap IntKind.i64 (Int.fdiv (IntKind.wrap IntKind.u64 (IntKind.wrap IntKind.i64 (((i : Nat) : Int) + ((j : Nat) : Int) : Int))) (2 : Int))) : Int) < (((List.length (Q.rowH l)) : Nat) : Int)) ∧
 (∃ x1 : ByteArray, (∃ x2 : ByteArray, (∃ n : Int, (∃ x3 : ByteArray, (∃ n1 : Int, (∃ n2 : Int, (∃ n3 : Int, (∃ n4 : Int, ((((Q.rowH l))[(Int.toNat (IntKind.wrap IntKind.i64 (Int.fdiv (IntKind.wrap IntKind.u64 (IntKind.wrap IntKind.i64 (((i : Nat) : Int) + ((j : Nat) : Int) : Int))) (2 : Int))))]? = ((Option.some [(AV.s x1), (AV.s x2), (AV.i IntKind.i64 n), (AV.s x3), (AV.i IntKind.i64 n1), (AV.i IntKind.i64 n2), (AV.i IntKind.i64 n3), (AV.i IntKind.i64 n4)]) : (Option (List AV)))) ∧
 (((List.length (([(AV.s x1)] ++ ([(AV.s x2)] ++ ([] : List AV) : (List AV)) : (List AV)) ++ ([(AV.i IntKind.i64 n)] ++ ([(AV.s x3)] ++ ([(AV.i IntKind.i64 n1)] ++ ([(AV.i IntKind.i64 n2)] ++ ([(AV.i IntKind.i64 n3)] ++ ([(AV.i IntKind.i64 n4)] ++ ([] : List AV) : (List AV)) : (List AV)) : (List AV)) : (List AV)) : (List AV)) : (List AV)) : (List AV))) = (8 : Nat)) ∧
 (∃ n5 : Int, ((ACalls Try.prog 48 [(AV.ag [(AV.s x1), (AV.s x2), (AV.i IntKind.i64 n), (AV.s x3), (AV.i IntKind.i64 n1), (AV.i IntKind.i64 n2), (AV.i IntKind.i64 n3), (AV.i IntKind.i64 n4)]), (AV.ag [(AV.s (x).1), (AV.s (x).2), (AV.i IntKind.i64 (x).3), (AV.s (x).4), (AV.i IntKind.i64 (x).5), (AV.i IntKind.i64 (x).6), (AV.i IntKind.i64 (x).7), (AV.i IntKind.i64 (x).8)])] ([] : List (Prod Nat Blk)) (AV.i IntKind.i64 n5) ([] : List (Prod Nat Blk))) ∧
 ((Bool.true = (Bool.true : Bool)) ∧
 (brP (decide ((n5 : Int) < (0 : Int))) ((AtL (hd Try.f47 (3 : Nat)) (hd Try.f47 (3 : Nat))) ∧
 (I { t := [(0, (AV.sl (Q.rowH l))), (2, (AV.fn 48 ([] : List AV) ([] : List AV))), (4, (AV.ptr 0 0)), (6, (AV.i IntKind.i64 (0 : Int))), (7, (AV.b Bool.false)), (8, (AV.i IntKind.i64 (((List.length (Q.rowH l)) : Nat) : Int))), (9, (AV.i IntKind.i64 (IntKind.wrap IntKind.i64 ((IntKind.wrap IntKind.i64 (Int.fdiv (IntKind.wrap IntKind.u64 (IntKind.wrap IntKind.i64 (((i : Nat) : Int) + ((j : Nat) : Int) : Int))) (2 : Int))) + (1 : Int) : Int)))), (10, (AV.i IntKind.i64 ((j : Nat) : Int)))], σ := [(0, (Blk.cells [(AV.s (x).1), (AV.s (x).2), (AV.i IntKind.i64 (x).3), (AV.s (x).4), (AV.i IntKind.i64 (x).5), (AV.i IntKind.i64 (x).6), (AV.i IntKind.i64 (x).7), (AV.i IntKind.i64 (x).8)]))], n := 1, m := 49 : St})) ((AtL (hd Try.f47 (3 : Nat)) (hd Try.f47 (3 : Nat))) ∧
 (I { t := [(0, (AV.sl (Q.rowH l))), (2, (AV.fn 48 ([] : List AV) ([] : List AV))), (4, (AV.ptr 0 0)), (6, (AV.i IntKind.i64 (0 : Int))), (7, (AV.b Bool.false)), (8, (AV.i IntKind.i64 (((List.length (Q.rowH l)) : Nat) : Int))), (9, (AV.i IntKind.i64 ((i : Nat) : Int))), (10, (AV.i IntKind.i64 (IntKind.wrap IntKind.i64 (Int.fdiv (IntKind.wrap IntKind.u64 (IntKind.wrap IntKind.i64 (((i : Nat) : Int) + ((j : Nat) : Int) : Int))) (2 : Int)))))], σ := [(0, (Blk.cells [(AV.s (x).1), (AV.s (x).2), (AV.i IntKind.i64 (x).3), (AV.s (x).4), (AV.i IntKind.i64 (x).5), (AV.i IntKind.i64 (x).6), (AV.i IntKind.i64 (x).7), (AV.i IntKind.i64 (x).8)]))], n := 1, m := 49 : St}))))))))))))))))))) (brP (decide ((((i : Nat) : Int) : Int) < (((List.length (Q.rowH l)) : Nat) : Int))) ((((0 : Int) : Int) ≤ ((i : Nat) : Int)) ∧
 (((((i : Nat) : Int) : Int) < (((List.length (Q.rowH l)) : Nat) : Int)) ∧
 (∃ x1 : ByteArray, (∃ x2 : ByteArray, (∃ n : Int, (∃ x3 : ByteArray, (∃ n1 : Int, (∃ n2 : Int, (∃ n3 : Int, (∃ n4 : Int, ((((Q.rowH l))[(Int.toNat ((i : Nat) : Int))]? = ((Option.some [(AV.s x1), (AV.s x2), (AV.i IntKind.i64 n), (AV.s x3), (AV.i IntKind.i64 n1), (AV.i IntKind.i64 n2), (AV.i IntKind.i64 n3), (AV.i IntKind.i64 n4)]) : (Option (List AV)))) ∧
 (((List.length (([(AV.s x1)] ++ ([(AV.s x2)] ++ ([] : List AV) : (List AV)) : (List AV)) ++ ([(AV.i IntKind.i64 n)] ++ ([(AV.s x3)] ++ ([(AV.i IntKind.i64 n1)] ++ ([(AV.i IntKind.i64 n2)] ++ ([(AV.i IntKind.i64 n3)] ++ ([(AV.i IntKind.i64 n4)] ++ ([] : List AV) : (List AV)) : (List AV)) : (List AV)) : (List AV)) : (List AV)) : (List AV)) : (List AV))) = (8 : Nat)) ∧
 (∃ n5 : Int, ((ACalls Try.prog 48 [(AV.ag [(AV.s x1), (AV.s x2), (AV.i IntKind.i64 n), (AV.s x3), (AV.i IntKind.i64 n1), (AV.i IntKind.i64 n2), (AV.i IntKind.i64 n3), (AV.i IntKind.i64 n4)]), (AV.ag [(AV.s (x).1), (AV.s (x).2), (AV.i IntKind.i64 (x).3), (AV.s (x).4), (AV.i IntKind.i64 (x).5), (AV.i IntKind.i64 (x).6), (AV.i IntKind.i64 (x).7), (AV.i IntKind.i64 (x).8)])] ([] : List (Prod Nat Blk)) (AV.i IntKind.i64 n5) ([] : List (Prod Nat Blk))) ∧
 ((Bool.true = (Bool.true : Bool)) ∧
 (((AV.tup [(AV.i IntKind.i64 ((i : Nat) : Int)), (AV.b (decide (n5 = ((0 : Int) : Int))))]) = (v : AV)) ∧
 (([] : List (Prod Nat Blk)) = (([] : List (Prod Nat Blk)) : Heap)))))))))))))))))) ((Bool.true = (Bool.true : Bool)) ∧
 (((AV.tup [(AV.i IntKind.i64 ((i : Nat) : Int)), (AV.b Bool.false)]) = (v : AV)) ∧
 (([] : List (Prod Nat Blk)) = (([] : List (Prod Nat Blk)) : Heap))))))
theorem vBsL_eq (l : List Held) (x : Held) (i j : Nat) (I : St → Prop) (v : AV) : vBsL l x i j I v = (evL Try.prog T0 Try.f47 [] (atK 0 (hd Try.f47 3) [0] [0,2,4,6,7,8,9,10] I) 3 (iBs l x i j) 0 [] v []) := by kernel_rfl

def sCl (a : AV) : St := { t := [(0, a)], σ := [], n := 0, m := 8 }
def clR (v : List (List AV)) : AV → St → Prop := nilR 41 8 (RetR 0 [0] (.own 0) [(0, .row 41 8 v)])
def vClN (R : AV → St → Prop) : Prop :=
 (R AV.nil { t := [(0, AV.nil), (2, AV.nil), (3, AV.nil), (4, (AV.b Bool.true))], σ := ([] : List (Prod Nat Blk)), n := 4, m := 8 : St})
theorem vClN_eq (R : AV → St → Prop) : vClN R = (evB Try.prog T0 Try.f50 [] noK (sCl .nil) R) := by kernel_rfl

def vClE (R : AV → St → Prop) : Prop :=
 (((0 : Nat) ≤ 140737488355328) ∧
 (((0 : Nat) ≤ 9223372036854775807) ∧
 ((∀ (y : (List AV)), ((List.Mem y ([] : List (List AV))) → ((List.length y) = (8 : Nat)))) ∧
 (R (AV.own 5) { t := [(0, AV.sle), (2, (AV.own 5)), (3, AV.sle), (4, (AV.b Bool.false)), (5, (AV.own 3)), (6, AV.sle), (7, (AV.own 5))], σ := [(5, (Blk.row 41 8 ([] : List (List AV))))], n := 7, m := 8 : St}))))
theorem vClE_eq (R : AV → St → Prop) : vClE R = (evB Try.prog T0 Try.f50 [] noK (sCl .sle) R) := by kernel_rfl

def vClC (x : List AV) (l : List (List AV)) (R : AV → St → Prop) : Prop :=
 (((((0 + (List.length (x :: l)) : Nat) * 88 : Nat) : Nat) ≤ 140737488355328) ∧
 ((((0 + (List.length (x :: l)) : Nat) : Nat) ≤ 9223372036854775807) ∧
 ((∀ (y : (List AV)), ((List.Mem y (x :: l)) → ((List.length y) = (8 : Nat)))) ∧
 (R (AV.own 5) { t := [(0, (AV.sl (x :: l))), (2, (AV.own 5)), (3, (AV.sl (x :: l))), (4, (AV.b Bool.false)), (5, (AV.own 3)), (6, (AV.sl (x :: l))), (7, (AV.own 5))], σ := [(5, (Blk.row 41 8 (x :: l)))], n := 7, m := 8 : St}))))
theorem vClC_eq (x : List AV) (l : List (List AV)) (R : AV → St → Prop) : vClC x l R = (evB Try.prog T0 Try.f50 [] noK (sCl (.sl (x :: l))) R) := by kernel_rfl

end Go.AM.Q
set_option maxRecDepth 100000
set_option linter.unusedVariables false
set_option linter.unusedSimpArgs false
namespace Go.AM.Q
open Go.Proofs
theorem exH {l : List Held} {k : Nat} (hk : k < l.length) {R : ByteArray → ByteArray → Int → ByteArray → Int → Int → Int → Int → Prop} {Z : ByteArray → ByteArray → Int → ByteArray → Int → Int → Int → Int → List AV}
    (hZ : (Z l[k].p l[k].t l[k].e l[k].by' l[k].f l[k].u l[k].r l[k].c).length = 8) (h : R l[k].p l[k].t l[k].e l[k].by' l[k].f l[k].u l[k].r l[k].c) :
    ∃ x1 x2 n x3 n1 n2 n3 n4, (rowH l)[k]? = some [.s x1, .s x2, .i .i64 n, .s x3, .i .i64 n1, .i .i64 n2, .i .i64 n3, .i .i64 n4] ∧ (Z x1 x2 n x3 n1 n2 n3 n4).length = 8 ∧ R x1 x2 n x3 n1 n2 n3 n4 :=
  ⟨_, _, _, _, _, _, _, _, rowH_get hk, hZ, h⟩
/-- Is the entry active at the moment? -/
def heldB (m : Mom) (h : Held) : Bool := strEq h.p m.p && strEq h.t m.t && decide (h.e = m.e) && decide (h.f ≤ m.now) && decide (m.now < h.u)
theorem heldM_calls (m : Mom) (h : Held) : ACalls Try.prog 70 [.ag m.cells, .ag h.cells] [] (.b (heldB m h)) [] :=
  acalls_vc (vHeldM_eq m h _) (by kernel_rfl) (by kernel_rfl) noK_runs (by
    simp only [vHeldM, brP_iff, heldB]
    grind)
theorem add1_calls (x h : Held) : ACalls Try.prog 46 [.ag h.cells, .pp x.cells] [] (.b (meetsB x h)) [] :=
  acalls_vc (vAdd1_eq x h _) (by kernel_rfl) (by kernel_rfl) noK_runs ⟨_, meets_calls x h, by trivial, by trivial⟩
theorem add2_calls (x h : Held) : ACalls Try.prog 48 [.ag x.cells, .ag h.cells] [] (.i .i64 (compareI x h)) [] :=
  acalls_vc (vAdd2_eq x h _) (by kernel_rfl) (by kernel_rfl) noK_runs ⟨_, compare_calls x h, by trivial, by trivial⟩
def renB (was longer h : Held) : Bool := !heldEq h was && meetsB longer h
theorem ren11_calls (h was longer : Held) : ACalls Try.prog 55 [.ag h.cells, .pp was.cells, .pp longer.cells] [] (.b (renB was longer h)) [] :=
  acalls_vc (vRen11_eq h was longer _) (by kernel_rfl) (by kernel_rfl) noK_runs (by
    have hm := meets_calls longer h
    simp only [vRen11, brP_iff, renB, heldEq]
    refine ⟨fun h1 => ⟨_, hm, ?_, by trivial⟩, fun h1 => ⟨?_, by trivial⟩⟩
    · grind
    · grind)
/-- The place of the first entry of which p holds, or -1. -/
def idxP (p : Held → Bool) (k : Int) : List Held → Int
  | [] => -1
  | h :: r => bif p h then k else idxP p (k + 1) r
theorem idxP_rng (p : Held → Bool) : ∀ (l : List Held) (k : Int), idxP p k l = -1 ∨ (k ≤ idxP p k l ∧ idxP p k l < k + l.length)
  | [], k => .inl rfl
  | h :: r, k => by
    unfold idxP
    cases p h with
    | true => right; simp; omega
    | false =>
      rcases idxP_rng p r (k + 1) with h1 | ⟨h1, h2⟩
      · exact .inl h1
      · right; simp only [cond_false, List.length_cons]; omega
theorem idxP_any (p : Held → Bool) : ∀ (l : List Held) (k : Int), 0 ≤ k → decide (0 ≤ idxP p k l) = l.any p
  | [], k, hk => rfl
  | h :: r, k, hk => by
    unfold idxP
    cases hp : p h with
    | true => simp [hp, hk]
    | false => simp [hp, idxP_any p r (k + 1) (by omega)]
theorem ixlH (m : Mom) (l : List Held) (hl : l.length < 4294967296) : ∀ (k j : Nat), l.length - j = k → j ≤ l.length → Runs Try.prog 69 0 (hd Try.f69 2) (iIx l (.fn 70 [.ag m.cells] []) j) (RetR 0 [] (.i .i64 (idxP (heldB m) j (l.drop j))) []) := by
  intro k
  induction k with
  | zero =>
    intro j hk hj
    have hj' : j = l.length := by omega
    subst hj'
    refine runs_vc (vIxLH_eq m l _ (fun _ => False) _) (by kernel_rfl) (fun todo s h => Runs.head h (fun _ h => h.elim)) ?_
    simp [vIxLH, brP_iff, rowH_len, idxP]
  | succ k ih =>
    intro j hk hj
    have hlt : j < l.length := by omega
    have hd : l.drop j = l[j] :: l.drop (j+1) := List.drop_eq_getElem_cons hlt
    refine runs_vc (vIxLH_eq m l j (fun s => s = iIx l (.fn 70 [.ag m.cells] []) (j+1) ∧ (heldB m) l[j] = false) _) (by kernel_rfl) (fun todo s h => Runs.head h ?_) ?_
    · rintro s' ⟨rfl, h0⟩
      have := ih (j+1) (by omega) (by omega)
      rw [hd]
      simpa only [idxP, h0, cond_false, Int.natCast_add, Int.cast_ofNat_Int] using this
    · simp only [vIxLH, brP_iff]
      refine ⟨fun _ => ⟨by omega, by rw [rowH_len]; omega, exH hlt rfl ⟨(heldB m) l[j], (heldM_calls m) l[j], fun h => ⟨?_, by trivial⟩, fun h => ⟨by trivial, ?_, h⟩⟩⟩, fun h => absurd h (by simp [rowH_len]; omega)⟩
      · rw [hd, idxP, h]; rfl
      · rw [wrap_id (by omega) (by omega)]; rfl
theorem ixH_calls (m : Mom) (l : List Held) (hl : l.length < 4294967296) : ACalls Try.prog 69 [.sl (rowH l), (.fn 70 [.ag m.cells] [])] [] (.i .i64 (idxP (heldB m) 0 l)) [] :=
  acalls_vc (vIxH_eq m l (fun s => s = iIx l (.fn 70 [.ag m.cells] []) 0) _) (by kernel_rfl) (by kernel_rfl) (fun todo s h => Runs.head h (fun s' e => by subst e; exact ixlH m l hl _ 0 rfl (Nat.zero_le _))) ⟨rfl, rfl⟩
theorem cfH_calls (m : Mom) (l : List Held) (hl : l.length < 4294967296) : ACalls Try.prog 45 [.sl (rowH l), (.fn 70 [.ag m.cells] [])] [] (.b (l.any (heldB m))) [] :=
  acalls_vc (vCfH_eq m l _) (by kernel_rfl) (by kernel_rfl) noK_runs ⟨_, ixH_calls m l hl, by rw [← idxP_any (heldB m) l 0 (Int.le_refl 0)], rfl⟩
theorem ixlA (x : Held) (l : List Held) (hl : l.length < 4294967296) : ∀ (k j : Nat), l.length - j = k → j ≤ l.length → Runs Try.prog 69 0 (hd Try.f69 2) (iIx l (.fn 46 [] [.pp x.cells]) j) (RetR 0 [] (.i .i64 (idxP (meetsB x) j (l.drop j))) []) := by
  intro k
  induction k with
  | zero =>
    intro j hk hj
    have hj' : j = l.length := by omega
    subst hj'
    refine runs_vc (vIxLA_eq x l _ (fun _ => False) _) (by kernel_rfl) (fun todo s h => Runs.head h (fun _ h => h.elim)) ?_
    simp [vIxLA, brP_iff, rowH_len, idxP]
  | succ k ih =>
    intro j hk hj
    have hlt : j < l.length := by omega
    have hd : l.drop j = l[j] :: l.drop (j+1) := List.drop_eq_getElem_cons hlt
    refine runs_vc (vIxLA_eq x l j (fun s => s = iIx l (.fn 46 [] [.pp x.cells]) (j+1) ∧ (meetsB x) l[j] = false) _) (by kernel_rfl) (fun todo s h => Runs.head h ?_) ?_
    · rintro s' ⟨rfl, h0⟩
      have := ih (j+1) (by omega) (by omega)
      rw [hd]
      simpa only [idxP, h0, cond_false, Int.natCast_add, Int.cast_ofNat_Int] using this
    · simp only [vIxLA, brP_iff]
      refine ⟨fun _ => ⟨by omega, by rw [rowH_len]; omega, exH hlt rfl ⟨(meetsB x) l[j], (add1_calls x) l[j], fun h => ⟨?_, by trivial⟩, fun h => ⟨by trivial, ?_, h⟩⟩⟩, fun h => absurd h (by simp [rowH_len]; omega)⟩
      · rw [hd, idxP, h]; rfl
      · rw [wrap_id (by omega) (by omega)]; rfl
theorem ixA_calls (x : Held) (l : List Held) (hl : l.length < 4294967296) : ACalls Try.prog 69 [.sl (rowH l), (.fn 46 [] [.pp x.cells])] [] (.i .i64 (idxP (meetsB x) 0 l)) [] :=
  acalls_vc (vIxA_eq x l (fun s => s = iIx l (.fn 46 [] [.pp x.cells]) 0) _) (by kernel_rfl) (by kernel_rfl) (fun todo s h => Runs.head h (fun s' e => by subst e; exact ixlA x l hl _ 0 rfl (Nat.zero_le _))) ⟨rfl, rfl⟩
theorem cfA_calls (x : Held) (l : List Held) (hl : l.length < 4294967296) : ACalls Try.prog 45 [.sl (rowH l), (.fn 46 [] [.pp x.cells])] [] (.b (l.any (meetsB x))) [] :=
  acalls_vc (vCfA_eq x l _) (by kernel_rfl) (by kernel_rfl) noK_runs ⟨_, ixA_calls x l hl, by rw [← idxP_any (meetsB x) l 0 (Int.le_refl 0)], rfl⟩
theorem ixlR (x y : Held) (l : List Held) (hl : l.length < 4294967296) : ∀ (k j : Nat), l.length - j = k → j ≤ l.length → Runs Try.prog 69 0 (hd Try.f69 2) (iIx l (.fn 55 [] [.pp x.cells, .pp y.cells]) j) (RetR 0 [] (.i .i64 (idxP (renB x y) j (l.drop j))) []) := by
  intro k
  induction k with
  | zero =>
    intro j hk hj
    have hj' : j = l.length := by omega
    subst hj'
    refine runs_vc (vIxLR_eq x y l _ (fun _ => False) _) (by kernel_rfl) (fun todo s h => Runs.head h (fun _ h => h.elim)) ?_
    simp [vIxLR, brP_iff, rowH_len, idxP]
  | succ k ih =>
    intro j hk hj
    have hlt : j < l.length := by omega
    have hd : l.drop j = l[j] :: l.drop (j+1) := List.drop_eq_getElem_cons hlt
    refine runs_vc (vIxLR_eq x y l j (fun s => s = iIx l (.fn 55 [] [.pp x.cells, .pp y.cells]) (j+1) ∧ (renB x y) l[j] = false) _) (by kernel_rfl) (fun todo s h => Runs.head h ?_) ?_
    · rintro s' ⟨rfl, h0⟩
      have := ih (j+1) (by omega) (by omega)
      rw [hd]
      simpa only [idxP, h0, cond_false, Int.natCast_add, Int.cast_ofNat_Int] using this
    · simp only [vIxLR, brP_iff]
      refine ⟨fun _ => ⟨by omega, by rw [rowH_len]; omega, exH hlt rfl ⟨(renB x y) l[j], (fun h => ren11_calls h x y) l[j], fun h => ⟨?_, by trivial⟩, fun h => ⟨by trivial, ?_, h⟩⟩⟩, fun h => absurd h (by simp [rowH_len]; omega)⟩
      · rw [hd, idxP, h]; rfl
      · rw [wrap_id (by omega) (by omega)]; rfl
theorem ixR_calls (x y : Held) (l : List Held) (hl : l.length < 4294967296) : ACalls Try.prog 69 [.sl (rowH l), (.fn 55 [] [.pp x.cells, .pp y.cells])] [] (.i .i64 (idxP (renB x y) 0 l)) [] :=
  acalls_vc (vIxR_eq x y l (fun s => s = iIx l (.fn 55 [] [.pp x.cells, .pp y.cells]) 0) _) (by kernel_rfl) (by kernel_rfl) (fun todo s h => Runs.head h (fun s' e => by subst e; exact ixlR x y l hl _ 0 rfl (Nat.zero_le _))) ⟨rfl, rfl⟩
theorem cfR_calls (x y : Held) (l : List Held) (hl : l.length < 4294967296) : ACalls Try.prog 45 [.sl (rowH l), (.fn 55 [] [.pp x.cells, .pp y.cells])] [] (.b (l.any (renB x y))) [] :=
  acalls_vc (vCfR_eq x y l _) (by kernel_rfl) (by kernel_rfl) noK_runs ⟨_, ixR_calls x y l hl, by rw [← idxP_any (renB x y) l 0 (Int.le_refl 0)], rfl⟩
theorem find_calls (a b c : Int) (l : List Held) (m : Mom) (hl : l.length < 4294967296) : ACalls Try.prog 42 [qAV a b c (rowH l), .ag [.s m.p, .s m.t], .i .i64 m.e, .i .i64 m.now] [] (.i .i64 (idxP (heldB m) 0 l)) [] :=
  acalls_vc (vFind_eq a b c l m _) (by kernel_rfl) (by kernel_rfl) noK_runs ⟨_, ixH_calls m l hl, rfl, rfl⟩
theorem ck_len {a b c : Int} {l : List Held} (h : checkB a b c l = true) : l.length ≤ 32 := by
  simp only [checkB, sizesB, Bool.and_eq_true, decide_eq_true_eq] at h
  omega
theorem ld_loop (a b c : Int) (l : List Held) (o : ByteArray) (hl : l.length ≤ 32) : ∀ (k j : Nat), l.length - j = k → j ≤ l.length → Runs Try.prog 20 0 (hd Try.f20 5) (iLd a b c l o j (cntO o (l.take j))) (RetR 0 [] (.i .i64 (cntO o l)) []) := by
  intro k
  induction k with
  | zero =>
    intro j hk hj
    have hj' : j = l.length := by omega
    subst hj'
    refine runs_vc (vLoadL_eq a b c l o _ _ (fun _ => False) _) (by kernel_rfl) (fun todo s h => Runs.head h (fun _ h => h.elim)) ?_
    simp [vLoadL, brP_iff, rowH_len]
  | succ k ih =>
    intro j hk hj
    have hlt : j < l.length := by omega
    have htk : l.take j ++ [l[j]] = l.take (j+1) := (List.take_succ_eq_append_getElem hlt).symm
    have hcnt := cntO_le o (l.take j)
    have hcl : (l.take j).length ≤ 32 := by simp; omega
    refine runs_vc (vLoadL_eq a b c l o j _ (fun s => s = iLd a b c l o (j+1) (cntO o (l.take (j+1)))) _) (by kernel_rfl) (fun todo s h => Runs.head h ?_) ?_
    · rintro s' rfl
      exact ih (j+1) (by omega) (by omega)
    · simp only [vLoadL, brP_iff]
      have hs := cntO_snoc o (l.take j) l[j]
      rw [htk] at hs
      refine ⟨fun _ => ⟨by omega, by rw [rowH_len]; omega, exH hlt rfl ⟨fun h => ⟨by trivial, ?_⟩, fun h => ⟨by trivial, ?_⟩⟩⟩, fun h => absurd h (by simp [rowH_len]; omega)⟩
      · rw [strEq_iff] at h
        rw [if_pos h] at hs
        simp only [iLd]
        rw [wrap_id (by omega) (by omega), wrap_id (by omega) (by omega), hs]
        rfl
      · rw [strEq_ne] at h
        rw [if_neg h] at hs
        simp only [iLd]
        rw [wrap_id (by omega) (by omega), hs]
        rfl
def loadI (a b c : Int) (l : List Held) (o : ByteArray) : Int := bif checkB a b c l then cntO o l else 0
theorem load_calls (a b c : Int) (l : List Held) (o : ByteArray) : ACalls Try.prog 20 [qAV a b c (rowH l), .s o] [] (.i .i64 (loadI a b c l o)) [] :=
  acalls_vc (vLoad_eq a b c l o (fun s => s = iLd a b c l o 0 (cntO o (l.take 0)) ∧ checkB a b c l = true) _) (by kernel_rfl) (by kernel_rfl) (fun todo s h => Runs.head h (fun s' e => by
    obtain ⟨rfl, e⟩ := e
    have := ld_loop a b c l o (ck_len e) _ 0 rfl (Nat.zero_le _)
    rw [show loadI a b c l o = cntO o l by simp [loadI, e]]
    exact this)) (by
    simp only [vLoad, brP_iff]
    refine ⟨checkB a b c l, check_calls a b c l, fun h => ⟨?_, by trivial⟩, fun h => ⟨by trivial, rfl, by simpa using h⟩⟩
    have : checkB a b c l = false := by simpa using h
    simp [loadI, this])
def Held.none : Held := ⟨⟨#[]⟩, ⟨#[]⟩, 0, ⟨#[]⟩, 0, 0, 0, 0⟩
/-- What Active gives. -/
def activeR (a b c : Int) (l : List Held) (m : Mom) : AV :=
  bif checkB a b c l then (match l.find? (heldB m) with
    | some h => .tup [.ag h.cells, .b true]
    | none => .tup [.ag Held.none.cells, .b false]) else .tup [.ag Held.none.cells, .b false]
theorem idxP_find (p : Held → Bool) : ∀ (l : List Held) (k : Int), 0 ≤ k → (l.find? p = none ∧ idxP p k l = -1) ∨ ∃ h i, l.find? p = some h ∧ idxP p k l = k + (i : Nat) ∧ l[i]? = some h ∧ i = l.findIdx p
  | [], k, hk => .inl ⟨rfl, rfl⟩
  | h :: r, k, hk => by
    unfold idxP
    cases hp : p h with
    | true => exact .inr ⟨h, 0, by simp [hp], by simp, rfl, by simp [List.findIdx_cons, hp]⟩
    | false =>
      rcases idxP_find p r (k + 1) (by omega) with ⟨h1, h2⟩ | ⟨x, i, h1, h2, h3, h4⟩
      · exact .inl ⟨by simp [hp, h1], h2⟩
      · exact .inr ⟨x, i + 1, by simp [hp, h1], by simp only [cond_false, h2]; omega, by simpa using h3, by simp [List.findIdx_cons, hp, h4]⟩
theorem active_calls (a b c : Int) (l : List Held) (m : Mom) : ACalls Try.prog 22 [qAV a b c (rowH l), .ag [.s m.p, .s m.t], .i .i64 m.e, .i .i64 m.now] [] (activeR a b c l m) [] :=
  acalls_vc (vActive_eq a b c l m _) (by kernel_rfl) (by kernel_rfl) noK_runs (by
    simp only [vActive, brP_iff]
    refine ⟨checkB a b c l, check_calls a b c l, fun h => ⟨?_, by trivial⟩, fun h => ?_⟩
    · have : checkB a b c l = false := by simpa using h
      simp [activeR, this, Held.none, Held.cells]
    · have hc : checkB a b c l = true := by simpa using h
      have hl := ck_len hc
      refine ⟨_, find_calls a b c l m (by omega), fun h2 => ⟨?_, by trivial⟩, fun h2 => ?_⟩
      · rcases idxP_find (heldB m) l 0 (Int.le_refl 0) with ⟨h3, h4⟩ | ⟨x, i, h3, h4, h5⟩
        · simp [activeR, hc, h3, Held.none, Held.cells]
        · rw [h4] at h2; simp at h2; omega
      · rcases idxP_find (heldB m) l 0 (Int.le_refl 0) with ⟨h3, h4⟩ | ⟨x, i, h3, h4, h5, _⟩
        · rw [h4] at h2; simp at h2
        · have hi := (List.getElem?_eq_some_iff.1 h5).1
          have hx := (List.getElem?_eq_some_iff.1 h5).2
          rw [h4]
          refine ⟨by omega, by rw [rowH_len]; omega, ?_⟩
          rw [show (0 + (i : Int)).toNat = i by omega]
          refine exH hi rfl ⟨?_, by trivial⟩
          simp [activeR, hc, h3, hx, Held.cells])
end Go.AM.Q
set_option maxRecDepth 100000
set_option linter.unusedVariables false
namespace Go.AM.Q
open Go.Proofs
--BEGIN
/-- A row with k spare places. -/
def spare (xs : List (List AV)) (k : Nat) : List (List AV) := xs ++ List.replicate k (List.replicate 8 .u)
def bareR (R : AV → Heap → Nat → Prop) (v : AV) (s : St) : Prop := R v s.σ s.n
def sIn0 (xs : List (List AV)) (y : List AV) (i k : Nat) : St := { t := [(0, .fv 0 8 0 xs.length (xs.length + k)), (1, .i .i64 i), (2, .own 1)], σ := [(0, .full 41 8 (spare xs k)), (1, .row 41 8 [y])], n := 2, m := 95 }
def insC : List (Nat × (List Nat × List Nat)) := [(9, ([], [0,1,2,7,8])), (10, ([10], [0,1,2,7,9])), (11, ([2], [0,1,2,7,9])), (12, ([2], [9])), (13, ([], [0,1,2,7,8])), (14, ([], [0,1,2,7])), (15, ([], [0,1,2,7])), (16, ([], [0,1,2,7])), (17, ([], [0])), (18, ([], [0]))]
def vIns0 (xs : List (List AV)) (y : List AV) (i k : Nat) (I : Nat → St → Prop) (R : AV → Heap → Nat → Prop) : Prop :=
 ((((0 : Int) : Int) ≤ ((i : Nat) : Int)) ∧
 ((((Int.toNat ((i : Nat) : Int)) : Nat) ≤ (List.length xs)) ∧
 ((((List.length xs) : Nat) ≤ ((List.length xs) + k : Nat)) ∧
 (((((List.length xs) + k : Nat) : Nat) ≤ ((List.length xs) + k : Nat)) ∧
 (brP (decide (((i : Nat) : Int) = ((((List.length xs) : Nat) : Int) : Int))) ((∀ (y1 : (List AV)), ((List.Mem y1 [y]) → ((List.length y1) = (8 : Nat)))) ∧
 (True ∧
 (brP (decide ((((List.length xs) + 1 : Nat) : Nat) ≤ ((List.length xs) + k : Nat))) (R (AV.fv 0 8 0 ((List.length xs) + 1 : Nat) ((List.length xs) + k : Nat)) [(0, (Blk.full 41 8 (splice (Q.spare xs k) (0 + (List.length xs) : Nat) [y]))), (1, (Blk.row 41 8 [y]))] 21) ((((1 * 88 : Nat) : Nat) ≤ 140737488355328) ∧
 ((((((List.length xs) + 1 : Nat) * 88 : Nat) : Nat) ≤ 140737488355328) ∧
 (((((List.length xs) + 1 : Nat) : Nat) ≤ 9223372036854775807) ∧
 ((noU (List.take (List.length xs) (List.drop 0 (Q.spare xs k)))) ∧
 (R (AV.own 19) [(0, (Blk.full 41 8 (Q.spare xs k))), (1, (Blk.row 41 8 [y])), (19, (Blk.row 41 8 ((List.take (List.length xs) (List.drop 0 (Q.spare xs k))) ++ [y] : (List (List AV)))))] 21)))))))) (brP (decide ((((((List.length xs) + k : Nat) : Nat) : Int) : Int) < (IntKind.wrap IntKind.i64 ((((List.length xs) : Nat) : Int) + (1 : Int) : Int)))) ((AtL (hd Try.f49 9) (hd Try.f49 9)) ∧
 (I 9 { t := [(0, (AV.fv 0 8 0 (List.length xs) ((List.length xs) + k : Nat))), (1, (AV.i IntKind.i64 ((i : Nat) : Int))), (2, (AV.own 1)), (7, (AV.i IntKind.i64 (1 : Int))), (8, (AV.i IntKind.i64 (((List.length xs) : Nat) : Int)))], σ := [(0, (Blk.full 41 8 (Q.spare xs k))), (1, (Blk.row 41 8 [y]))], n := 2, m := 95 : St})) ((AtL (hd Try.f49 13) (hd Try.f49 13)) ∧
 (I 13 { t := [(0, (AV.fv 0 8 0 (List.length xs) ((List.length xs) + k : Nat))), (1, (AV.i IntKind.i64 ((i : Nat) : Int))), (2, (AV.own 1)), (7, (AV.i IntKind.i64 (1 : Int))), (8, (AV.i IntKind.i64 (((List.length xs) : Nat) : Int)))], σ := [(0, (Blk.full 41 8 (Q.spare xs k))), (1, (Blk.row 41 8 [y]))], n := 2, m := 95 : St}))))))))
theorem vIns0_eq (xs : List (List AV)) (y : List AV) (i k : Nat) (I : Nat → St → Prop) (R : AV → Heap → Nat → Prop) : vIns0 xs y i k I R = (evB Try.prog TQ Try.f49 [9,13] (cutK 2 Try.f49 insC I) (sIn0 xs y i k) (bareR R)) := by kernel_rfl

def sIn9 (n i k : Nat) (zs : List (List AV)) (y : List AV) : St := { t := [(0, .fv 0 8 0 n (n + k)), (1, .i .i64 i), (2, .own 1), (7, .i .i64 1), (8, .i .i64 n)], σ := [(0, .full 41 8 zs), (1, .row 41 8 [y])], n := 2, m := 95 }
def sIn10 (n i k : Nat) (zs ws : List (List AV)) (y : List AV) : St := { t := [(0, .fv 0 8 0 n (n + k)), (1, .i .i64 i), (2, .own 1), (7, .i .i64 1), (9, .own 2)], σ := [(0, .full 41 8 zs), (1, .row 41 8 [y]), (2, .row 41 8 ws)], n := 3, m := 95 }
def sIn12 (zs ws : List (List AV)) (y : List AV) : St := { t := [(9, .own 2)], σ := [(0, .full 41 8 zs), (1, .row 41 8 [y]), (2, .row 41 8 ws)], n := 3, m := 95 }
def sIn14 (n i c : Nat) (zs : List (List AV)) (y : List AV) : St := { t := [(0, .fv 0 8 0 n c), (1, .i .i64 i), (2, .own 1), (7, .i .i64 1)], σ := [(0, .full 41 8 zs), (1, .row 41 8 [y])], n := 2, m := 95 }
def sIn17 (n c : Nat) (zs : List (List AV)) (y : List AV) : St := { t := [(0, .fv 0 8 0 n c)], σ := [(0, .full 41 8 zs), (1, .row 41 8 [y])], n := 2, m := 95 }
def vIns9 (n i k : Nat) (zs : List (List AV)) (y : List AV) (I : Nat → St → Prop) (R : AV → Heap → Nat → Prop) : Prop :=
 ((((0 : Int) : Int) ≤ ((i : Nat) : Int)) ∧
 (((0 : Nat) ≤ (Int.toNat ((i : Nat) : Int))) ∧
 ((((Int.toNat ((i : Nat) : Int)) : Nat) ≤ (n + k : Nat)) ∧
 ((((n + k : Nat) : Nat) ≤ (n + k : Nat)) ∧
 ((((0 : Int) : Int) ≤ (IntKind.wrap IntKind.i64 ((IntKind.wrap IntKind.i64 (((n : Nat) : Int) + (1 : Int) : Int)) - ((i : Nat) : Int) : Int))) ∧
 ((((IntKind.wrap IntKind.i64 ((IntKind.wrap IntKind.i64 (((n : Nat) : Int) + (1 : Int) : Int)) - ((i : Nat) : Int) : Int)) : Int) ≤ (140737488355328 : Int)) ∧
 ((∀ (y1 : (List AV)), ((List.Mem y1 (List.replicate (Int.toNat (IntKind.wrap IntKind.i64 ((IntKind.wrap IntKind.i64 (((n : Nat) : Int) + (1 : Int) : Int)) - ((i : Nat) : Int) : Int))) [(AV.s (ByteArray.mk (List.toArray ([] : List UInt8)))), (AV.s (ByteArray.mk (List.toArray ([] : List UInt8)))), (AV.i IntKind.i64 (0 : Int)), (AV.s (ByteArray.mk (List.toArray ([] : List UInt8)))), (AV.i IntKind.i64 (0 : Int)), (AV.i IntKind.i64 (0 : Int)), (AV.i IntKind.i64 (0 : Int)), (AV.i IntKind.i64 (0 : Int))])) → ((List.length y1) = (8 : Nat)))) ∧
 ((Nat.le ((List.length (List.replicate (Int.toNat (IntKind.wrap IntKind.i64 ((IntKind.wrap IntKind.i64 (((n : Nat) : Int) + (1 : Int) : Int)) - ((i : Nat) : Int) : Int))) [(AV.s (ByteArray.mk (List.toArray ([] : List UInt8)))), (AV.s (ByteArray.mk (List.toArray ([] : List UInt8)))), (AV.i IntKind.i64 (0 : Int)), (AV.s (ByteArray.mk (List.toArray ([] : List UInt8)))), (AV.i IntKind.i64 (0 : Int)), (AV.i IntKind.i64 (0 : Int)), (AV.i IntKind.i64 (0 : Int)), (AV.i IntKind.i64 (0 : Int))])) * 88 : Nat) 140737488355328) ∧
 (brP (decide (((((Int.toNat ((i : Nat) : Int)) - 0 : Nat) + (List.length (List.replicate (Int.toNat (IntKind.wrap IntKind.i64 ((IntKind.wrap IntKind.i64 (((n : Nat) : Int) + (1 : Int) : Int)) - ((i : Nat) : Int) : Int))) [(AV.s (ByteArray.mk (List.toArray ([] : List UInt8)))), (AV.s (ByteArray.mk (List.toArray ([] : List UInt8)))), (AV.i IntKind.i64 (0 : Int)), (AV.s (ByteArray.mk (List.toArray ([] : List UInt8)))), (AV.i IntKind.i64 (0 : Int)), (AV.i IntKind.i64 (0 : Int)), (AV.i IntKind.i64 (0 : Int)), (AV.i IntKind.i64 (0 : Int))])) : Nat) : Nat) ≤ ((n + k : Nat) - 0 : Nat))) ((AtL (hd Try.f49 10) (hd Try.f49 10)) ∧
 (I 10 { t := [(0, (AV.fv 0 8 0 n (n + k : Nat))), (1, (AV.i IntKind.i64 ((i : Nat) : Int))), (2, (AV.own 1)), (7, (AV.i IntKind.i64 (1 : Int))), (9, (AV.fv 0 8 0 (((Int.toNat ((i : Nat) : Int)) - 0 : Nat) + (List.length (List.replicate (Int.toNat (IntKind.wrap IntKind.i64 ((IntKind.wrap IntKind.i64 (((n : Nat) : Int) + (1 : Int) : Int)) - ((i : Nat) : Int) : Int))) [(AV.s (ByteArray.mk (List.toArray ([] : List UInt8)))), (AV.s (ByteArray.mk (List.toArray ([] : List UInt8)))), (AV.i IntKind.i64 (0 : Int)), (AV.s (ByteArray.mk (List.toArray ([] : List UInt8)))), (AV.i IntKind.i64 (0 : Int)), (AV.i IntKind.i64 (0 : Int)), (AV.i IntKind.i64 (0 : Int)), (AV.i IntKind.i64 (0 : Int))])) : Nat) ((n + k : Nat) - 0 : Nat)))], σ := [(0, (Blk.full 41 8 (splice zs (0 + ((Int.toNat ((i : Nat) : Int)) - 0 : Nat) : Nat) (List.replicate (Int.toNat (IntKind.wrap IntKind.i64 ((IntKind.wrap IntKind.i64 (((n : Nat) : Int) + (1 : Int) : Int)) - ((i : Nat) : Int) : Int))) [(AV.s (ByteArray.mk (List.toArray ([] : List UInt8)))), (AV.s (ByteArray.mk (List.toArray ([] : List UInt8)))), (AV.i IntKind.i64 (0 : Int)), (AV.s (ByteArray.mk (List.toArray ([] : List UInt8)))), (AV.i IntKind.i64 (0 : Int)), (AV.i IntKind.i64 (0 : Int)), (AV.i IntKind.i64 (0 : Int)), (AV.i IntKind.i64 (0 : Int))])))), (1, (Blk.row 41 8 [y]))], n := 3, m := 95 : St})) (((((List.length (List.replicate (Int.toNat (IntKind.wrap IntKind.i64 ((IntKind.wrap IntKind.i64 (((n : Nat) : Int) + (1 : Int) : Int)) - ((i : Nat) : Int) : Int))) [(AV.s (ByteArray.mk (List.toArray ([] : List UInt8)))), (AV.s (ByteArray.mk (List.toArray ([] : List UInt8)))), (AV.i IntKind.i64 (0 : Int)), (AV.s (ByteArray.mk (List.toArray ([] : List UInt8)))), (AV.i IntKind.i64 (0 : Int)), (AV.i IntKind.i64 (0 : Int)), (AV.i IntKind.i64 (0 : Int)), (AV.i IntKind.i64 (0 : Int))])) * 88 : Nat) : Nat) ≤ 140737488355328) ∧
 (((((((Int.toNat ((i : Nat) : Int)) - 0 : Nat) + (List.length (List.replicate (Int.toNat (IntKind.wrap IntKind.i64 ((IntKind.wrap IntKind.i64 (((n : Nat) : Int) + (1 : Int) : Int)) - ((i : Nat) : Int) : Int))) [(AV.s (ByteArray.mk (List.toArray ([] : List UInt8)))), (AV.s (ByteArray.mk (List.toArray ([] : List UInt8)))), (AV.i IntKind.i64 (0 : Int)), (AV.s (ByteArray.mk (List.toArray ([] : List UInt8)))), (AV.i IntKind.i64 (0 : Int)), (AV.i IntKind.i64 (0 : Int)), (AV.i IntKind.i64 (0 : Int)), (AV.i IntKind.i64 (0 : Int))])) : Nat) * 88 : Nat) : Nat) ≤ 140737488355328) ∧
 ((((((Int.toNat ((i : Nat) : Int)) - 0 : Nat) + (List.length (List.replicate (Int.toNat (IntKind.wrap IntKind.i64 ((IntKind.wrap IntKind.i64 (((n : Nat) : Int) + (1 : Int) : Int)) - ((i : Nat) : Int) : Int))) [(AV.s (ByteArray.mk (List.toArray ([] : List UInt8)))), (AV.s (ByteArray.mk (List.toArray ([] : List UInt8)))), (AV.i IntKind.i64 (0 : Int)), (AV.s (ByteArray.mk (List.toArray ([] : List UInt8)))), (AV.i IntKind.i64 (0 : Int)), (AV.i IntKind.i64 (0 : Int)), (AV.i IntKind.i64 (0 : Int)), (AV.i IntKind.i64 (0 : Int))])) : Nat) : Nat) ≤ 9223372036854775807) ∧
 ((noU (List.take ((Int.toNat ((i : Nat) : Int)) - 0 : Nat) (List.drop 0 zs))) ∧
 ((AtL (hd Try.f49 10) (hd Try.f49 10)) ∧
 (I 10 { t := [(0, (AV.fv 0 8 0 n (n + k : Nat))), (1, (AV.i IntKind.i64 ((i : Nat) : Int))), (2, (AV.own 1)), (7, (AV.i IntKind.i64 (1 : Int))), (9, (AV.own 2))], σ := [(0, (Blk.full 41 8 zs)), (1, (Blk.row 41 8 [y])), (2, (Blk.row 41 8 ((List.take ((Int.toNat ((i : Nat) : Int)) - 0 : Nat) (List.drop 0 zs)) ++ (List.replicate (Int.toNat (IntKind.wrap IntKind.i64 ((IntKind.wrap IntKind.i64 (((n : Nat) : Int) + (1 : Int) : Int)) - ((i : Nat) : Int) : Int))) [(AV.s (ByteArray.mk (List.toArray ([] : List UInt8)))), (AV.s (ByteArray.mk (List.toArray ([] : List UInt8)))), (AV.i IntKind.i64 (0 : Int)), (AV.s (ByteArray.mk (List.toArray ([] : List UInt8)))), (AV.i IntKind.i64 (0 : Int)), (AV.i IntKind.i64 (0 : Int)), (AV.i IntKind.i64 (0 : Int)), (AV.i IntKind.i64 (0 : Int))]) : (List (List AV)))))], n := 3, m := 95 : St})))))))))))))))
theorem vIns9_eq (n i k : Nat) (zs : List (List AV)) (y : List AV) (I : Nat → St → Prop) (R : AV → Heap → Nat → Prop) : vIns9 n i k zs y I R = (evH Try.prog TQ Try.f49 [10] (cutK 2 Try.f49 insC I) 9 (sIn9 n i k zs y) (bareR R)) := by kernel_rfl

def vIns10 (n i k : Nat) (zs ws : List (List AV)) (y : List AV) (I : Nat → St → Prop) (R : AV → Heap → Nat → Prop) : Prop :=
 ((((0 : Int) : Int) ≤ ((i : Nat) : Int)) ∧
 (((((i : Nat) : Int) : Int) ≤ (((List.length ws) : Nat) : Int)) ∧
 ((∀ (y1 : (List AV)), ((List.Mem y1 (List.take ((List.length ws) - (Int.toNat ((i : Nat) : Int)) : Nat) [y])) → ((List.length y1) = (8 : Nat)))) ∧
 ((AtL (hd Try.f49 11) (hd Try.f49 11)) ∧
 (I 11 { t := [(0, (AV.fv 0 8 0 n (n + k : Nat))), (1, (AV.i IntKind.i64 ((i : Nat) : Int))), (2, (AV.own 1)), (7, (AV.i IntKind.i64 (1 : Int))), (9, (AV.own 2))], σ := [(0, (Blk.full 41 8 zs)), (1, (Blk.row 41 8 [y])), (2, (Blk.row 41 8 (splice ws (Int.toNat ((i : Nat) : Int)) (List.take ((List.length ws) - (Int.toNat ((i : Nat) : Int)) : Nat) [y]))))], n := 3, m := 95 : St})))))
theorem vIns10_eq (n i k : Nat) (zs ws : List (List AV)) (y : List AV) (I : Nat → St → Prop) (R : AV → Heap → Nat → Prop) : vIns10 n i k zs ws y I R = (evH Try.prog TQ Try.f49 [11] (cutK 2 Try.f49 insC I) 10 (sIn10 n i k zs ws y) (bareR R)) := by kernel_rfl

def vIns11 (n i k : Nat) (zs ws : List (List AV)) (y : List AV) (I : Nat → St → Prop) (R : AV → Heap → Nat → Prop) : Prop :=
 ((((0 : Int) : Int) ≤ (IntKind.wrap IntKind.i64 (((i : Nat) : Int) + (1 : Int) : Int))) ∧
 ((((IntKind.wrap IntKind.i64 (((i : Nat) : Int) + (1 : Int) : Int)) : Int) ≤ (((List.length ws) : Nat) : Int)) ∧
 ((((0 : Int) : Int) ≤ ((i : Nat) : Int)) ∧
 ((((Int.toNat ((i : Nat) : Int)) : Nat) ≤ n) ∧
 (((n : Nat) ≤ (n + k : Nat)) ∧
 ((((n + k : Nat) : Nat) ≤ (n + k : Nat)) ∧
 ((noU (List.take (Min.min (n - (Int.toNat ((i : Nat) : Int)) : Nat) ((List.length ws) - (Int.toNat (IntKind.wrap IntKind.i64 (((i : Nat) : Int) + (1 : Int) : Int))) : Nat)) (List.drop (0 + (Int.toNat ((i : Nat) : Int)) : Nat) zs))) ∧
 ((∀ (y1 : (List AV)), ((List.Mem y1 (List.take (Min.min (n - (Int.toNat ((i : Nat) : Int)) : Nat) ((List.length ws) - (Int.toNat (IntKind.wrap IntKind.i64 (((i : Nat) : Int) + (1 : Int) : Int))) : Nat)) (List.drop (0 + (Int.toNat ((i : Nat) : Int)) : Nat) zs))) → ((List.length y1) = (8 : Nat)))) ∧
 ((Bool.true = (Bool.true : Bool)) ∧
 ((AtL (hd Try.f49 12) (hd Try.f49 12)) ∧
 (I 12 { t := [(9, (AV.own 2))], σ := [(0, (Blk.full 41 8 zs)), (1, (Blk.row 41 8 [y])), (2, (Blk.row 41 8 (splice ws (Int.toNat (IntKind.wrap IntKind.i64 (((i : Nat) : Int) + (1 : Int) : Int))) (List.take (Min.min (n - (Int.toNat ((i : Nat) : Int)) : Nat) ((List.length ws) - (Int.toNat (IntKind.wrap IntKind.i64 (((i : Nat) : Int) + (1 : Int) : Int))) : Nat)) (List.drop (0 + (Int.toNat ((i : Nat) : Int)) : Nat) zs)))))], n := 3, m := 95 : St})))))))))))
theorem vIns11_eq (n i k : Nat) (zs ws : List (List AV)) (y : List AV) (I : Nat → St → Prop) (R : AV → Heap → Nat → Prop) : vIns11 n i k zs ws y I R = (evH Try.prog TQ Try.f49 [12] (cutK 2 Try.f49 insC I) 11 (sIn10 n i k zs ws y) (bareR R)) := by kernel_rfl

def vIns12 (zs ws : List (List AV)) (y : List AV) (I : Nat → St → Prop) (R : AV → Heap → Nat → Prop) : Prop :=
 (R (AV.own 2) [(0, (Blk.full 41 8 zs)), (1, (Blk.row 41 8 [y])), (2, (Blk.row 41 8 ws))] 5)
theorem vIns12_eq (zs ws : List (List AV)) (y : List AV) (I : Nat → St → Prop) (R : AV → Heap → Nat → Prop) : vIns12 zs ws y I R = (evH Try.prog TQ Try.f49 [] (cutK 2 Try.f49 insC I) 12 (sIn12 zs ws y) (bareR R)) := by kernel_rfl

def vIns13 (n i k : Nat) (zs : List (List AV)) (y : List AV) (I : Nat → St → Prop) (R : AV → Heap → Nat → Prop) : Prop :=
 ((((0 : Int) : Int) ≤ (IntKind.wrap IntKind.i64 (((n : Nat) : Int) + (1 : Int) : Int))) ∧
 (((0 : Nat) ≤ (Int.toNat (IntKind.wrap IntKind.i64 (((n : Nat) : Int) + (1 : Int) : Int)))) ∧
 ((((Int.toNat (IntKind.wrap IntKind.i64 (((n : Nat) : Int) + (1 : Int) : Int))) : Nat) ≤ (n + k : Nat)) ∧
 ((((n + k : Nat) : Nat) ≤ (n + k : Nat)) ∧
 ((AtL (hd Try.f49 14) (hd Try.f49 14)) ∧
 (I 14 { t := [(0, (AV.fv 0 8 0 ((Int.toNat (IntKind.wrap IntKind.i64 (((n : Nat) : Int) + (1 : Int) : Int))) - 0 : Nat) ((n + k : Nat) - 0 : Nat))), (1, (AV.i IntKind.i64 ((i : Nat) : Int))), (2, (AV.own 1)), (7, (AV.i IntKind.i64 (1 : Int)))], σ := [(0, (Blk.full 41 8 zs)), (1, (Blk.row 41 8 [y]))], n := 2, m := 95 : St}))))))
theorem vIns13_eq (n i k : Nat) (zs : List (List AV)) (y : List AV) (I : Nat → St → Prop) (R : AV → Heap → Nat → Prop) : vIns13 n i k zs y I R = (evH Try.prog TQ Try.f49 [14] (cutK 2 Try.f49 insC I) 13 (sIn9 n i k zs y) (bareR R)) := by kernel_rfl

def vIns14 (n i c : Nat) (zs : List (List AV)) (y : List AV) (I : Nat → St → Prop) (R : AV → Heap → Nat → Prop) : Prop :=
 ((((0 : Int) : Int) ≤ (IntKind.wrap IntKind.i64 (((i : Nat) : Int) + (1 : Int) : Int))) ∧
 ((((Int.toNat (IntKind.wrap IntKind.i64 (((i : Nat) : Int) + (1 : Int) : Int))) : Nat) ≤ n) ∧
 (((n : Nat) ≤ c) ∧
 (((c : Nat) ≤ c) ∧
 (∃ x : Bool, ((NCalls Try.prog 72 ((([] : List AV) ++ [(AV.own 1), (AV.fv 0 8 (0 + (Int.toNat (IntKind.wrap IntKind.i64 (((i : Nat) : Int) + (1 : Int) : Int))) : Nat) (n - (Int.toNat (IntKind.wrap IntKind.i64 (((i : Nat) : Int) + (1 : Int) : Int))) : Nat) (c - (Int.toNat (IntKind.wrap IntKind.i64 (((i : Nat) : Int) + (1 : Int) : Int))) : Nat))] : (List AV)) ++ ([] : List AV) : (List AV)) (restr [1, 0] [(0, (Blk.full 41 8 zs)), (1, (Blk.row 41 8 [y]))]) (AV.b x)) ∧
 (brP (!x) ((AtL (hd Try.f49 15) (hd Try.f49 15)) ∧
 (I 15 { t := [(0, (AV.fv 0 8 0 n c)), (1, (AV.i IntKind.i64 ((i : Nat) : Int))), (2, (AV.own 1)), (7, (AV.i IntKind.i64 (1 : Int)))], σ := [(0, (Blk.full 41 8 zs)), (1, (Blk.row 41 8 [y]))], n := 2, m := 95 : St})) ((AtL (hd Try.f49 18) (hd Try.f49 18)) ∧
 (I 18 { t := [(0, (AV.fv 0 8 0 n c))], σ := [(0, (Blk.full 41 8 zs)), (1, (Blk.row 41 8 [y]))], n := 2, m := 95 : St})))))))))
theorem vIns14_eq (n i c : Nat) (zs : List (List AV)) (y : List AV) (I : Nat → St → Prop) (R : AV → Heap → Nat → Prop) : vIns14 n i c zs y I R = (evH Try.prog TQ Try.f49 [15,18] (cutK 2 Try.f49 insC I) 14 (sIn14 n i c zs y) (bareR R)) := by kernel_rfl

def vIns15 (n i c : Nat) (zs : List (List AV)) (y : List AV) (I : Nat → St → Prop) (R : AV → Heap → Nat → Prop) : Prop :=
 ((((0 : Int) : Int) ≤ (IntKind.wrap IntKind.i64 (((i : Nat) : Int) + (1 : Int) : Int))) ∧
 ((((Int.toNat (IntKind.wrap IntKind.i64 (((i : Nat) : Int) + (1 : Int) : Int))) : Nat) ≤ n) ∧
 (((n : Nat) ≤ c) ∧
 (((c : Nat) ≤ c) ∧
 ((((0 : Int) : Int) ≤ ((i : Nat) : Int)) ∧
 ((((Int.toNat ((i : Nat) : Int)) : Nat) ≤ n) ∧
 (((n : Nat) ≤ c) ∧
 (((c : Nat) ≤ c) ∧
 ((noU (List.take (Min.min (n - (Int.toNat ((i : Nat) : Int)) : Nat) (n - (Int.toNat (IntKind.wrap IntKind.i64 (((i : Nat) : Int) + (1 : Int) : Int))) : Nat)) (List.drop (0 + (Int.toNat ((i : Nat) : Int)) : Nat) zs))) ∧
 ((∀ (y1 : (List AV)), ((List.Mem y1 (List.take (Min.min (n - (Int.toNat ((i : Nat) : Int)) : Nat) (n - (Int.toNat (IntKind.wrap IntKind.i64 (((i : Nat) : Int) + (1 : Int) : Int))) : Nat)) (List.drop (0 + (Int.toNat ((i : Nat) : Int)) : Nat) zs))) → ((List.length y1) = (8 : Nat)))) ∧
 ((Bool.true = (Bool.true : Bool)) ∧
 ((AtL (hd Try.f49 16) (hd Try.f49 16)) ∧
 (I 16 { t := [(0, (AV.fv 0 8 0 n c)), (1, (AV.i IntKind.i64 ((i : Nat) : Int))), (2, (AV.own 1)), (7, (AV.i IntKind.i64 (1 : Int)))], σ := [(0, (Blk.full 41 8 (splice zs (0 + (Int.toNat (IntKind.wrap IntKind.i64 (((i : Nat) : Int) + (1 : Int) : Int))) : Nat) (List.take (Min.min (n - (Int.toNat ((i : Nat) : Int)) : Nat) (n - (Int.toNat (IntKind.wrap IntKind.i64 (((i : Nat) : Int) + (1 : Int) : Int))) : Nat)) (List.drop (0 + (Int.toNat ((i : Nat) : Int)) : Nat) zs))))), (1, (Blk.row 41 8 [y]))], n := 2, m := 95 : St})))))))))))))
theorem vIns15_eq (n i c : Nat) (zs : List (List AV)) (y : List AV) (I : Nat → St → Prop) (R : AV → Heap → Nat → Prop) : vIns15 n i c zs y I R = (evH Try.prog TQ Try.f49 [16] (cutK 2 Try.f49 insC I) 15 (sIn14 n i c zs y) (bareR R)) := by kernel_rfl

def vIns16 (n i c : Nat) (zs : List (List AV)) (y : List AV) (I : Nat → St → Prop) (R : AV → Heap → Nat → Prop) : Prop :=
 ((((0 : Int) : Int) ≤ ((i : Nat) : Int)) ∧
 ((((Int.toNat ((i : Nat) : Int)) : Nat) ≤ n) ∧
 (((n : Nat) ≤ c) ∧
 (((c : Nat) ≤ c) ∧
 ((∀ (y1 : (List AV)), ((List.Mem y1 (List.take (n - (Int.toNat ((i : Nat) : Int)) : Nat) [y])) → ((List.length y1) = (8 : Nat)))) ∧
 ((AtL (hd Try.f49 17) (hd Try.f49 17)) ∧
 (I 17 { t := [(0, (AV.fv 0 8 0 n c))], σ := [(0, (Blk.full 41 8 (splice zs (0 + (Int.toNat ((i : Nat) : Int)) : Nat) (List.take (n - (Int.toNat ((i : Nat) : Int)) : Nat) [y])))), (1, (Blk.row 41 8 [y]))], n := 2, m := 95 : St})))))))
theorem vIns16_eq (n i c : Nat) (zs : List (List AV)) (y : List AV) (I : Nat → St → Prop) (R : AV → Heap → Nat → Prop) : vIns16 n i c zs y I R = (evH Try.prog TQ Try.f49 [17] (cutK 2 Try.f49 insC I) 16 (sIn14 n i c zs y) (bareR R)) := by kernel_rfl

def vIns17 (n c : Nat) (zs : List (List AV)) (y : List AV) (I : Nat → St → Prop) (R : AV → Heap → Nat → Prop) : Prop :=
 (R (AV.fv 0 8 0 n c) [(0, (Blk.full 41 8 zs)), (1, (Blk.row 41 8 [y]))] 4)
theorem vIns17_eq (n c : Nat) (zs : List (List AV)) (y : List AV) (I : Nat → St → Prop) (R : AV → Heap → Nat → Prop) : vIns17 n c zs y I R = (evH Try.prog TQ Try.f49 [] (cutK 2 Try.f49 insC I) 17 (sIn17 n c zs y) (bareR R)) := by kernel_rfl

def vInsE (xs : List (List AV)) (y : List AV) (i : Nat) (I : Nat → St → Prop) (R : AV → Heap → Nat → Prop) : Prop :=
 ((((0 : Int) : Int) ≤ ((i : Nat) : Int)) ∧
 (((((i : Nat) : Int) : Int) ≤ (((List.length xs) : Nat) : Int)) ∧
 (brP (decide (((i : Nat) : Int) = ((((List.length xs) : Nat) : Int) : Int))) ((((((List.length xs) + 1 : Nat) * 88 : Nat) : Nat) ≤ 140737488355328) ∧
 (((((List.length xs) + 1 : Nat) : Nat) ≤ 9223372036854775807) ∧
 ((∀ (y1 : (List AV)), ((List.Mem y1 [y]) → ((List.length y1) = (8 : Nat)))) ∧
 (R (AV.own 19) [(1, (Blk.row 41 8 [y])), (19, (Blk.row 41 8 (xs ++ [y] : (List (List AV)))))] 21)))) (I 8 { t := ([] : List (Prod Nat AV)), σ := ([] : List (Prod Nat Blk)), n := 17, m := 95 : St}))))
theorem vInsE_eq (xs : List (List AV)) (y : List AV) (i : Nat) (I : Nat → St → Prop) (R : AV → Heap → Nat → Prop) : vInsE xs y i I R = (evB Try.prog TQ Try.f49 [8] (fun _ s => I 8 { s with t := [], σ := [] }) { t := [(0, .own 0), (1, .i .i64 i), (2, .own 1)], σ := [(0, .row 41 8 xs), (1, .row 41 8 [y])], n := 2, m := 95 } (bareR R)) := by kernel_rfl

def sDel0 (xs : List (List AV)) (i j k : Nat) : St := { t := [(0, .fv 0 8 0 xs.length (xs.length + k)), (1, .i .i64 i), (2, .i .i64 j)], σ := [(0, .full 41 8 (spare xs k))], n := 1, m := 33 }
def sDel5 (n c i j : Nat) (zs : List (List AV)) : St := { t := [(0, .fv 0 8 0 n c), (1, .i .i64 i), (2, .i .i64 j), (7, .i .i64 n)], σ := [(0, .full 41 8 zs)], n := 1, m := 33 }
def sDel6 (n c m : Nat) (zs : List (List AV)) : St := { t := [(0, .fv 0 8 0 m c), (7, .i .i64 n)], σ := [(0, .full 41 8 zs)], n := 1, m := 33 }
def delC : List (Nat × (List Nat × List Nat)) := [(5, ([], [0,1,2,7])), (6, ([], [0,7])), (7, ([], [0]))]
def vDel0 (xs : List (List AV)) (i j k : Nat) (I : Nat → St → Prop) (R : AV → Heap → Nat → Prop) : Prop :=
 ((((0 : Int) : Int) ≤ ((i : Nat) : Int)) ∧
 ((((0 : Int) : Int) ≤ ((j : Nat) : Int)) ∧
 ((((0 : Int) : Int) ≤ (((List.length xs) : Nat) : Int)) ∧
 ((((Int.toNat ((i : Nat) : Int)) : Nat) ≤ (Int.toNat ((j : Nat) : Int))) ∧
 ((((Int.toNat ((j : Nat) : Int)) : Nat) ≤ (Int.toNat (((List.length xs) : Nat) : Int))) ∧
 ((((Int.toNat (((List.length xs) : Nat) : Int)) : Nat) ≤ ((List.length xs) + k : Nat)) ∧
 (brP (decide (((i : Nat) : Int) = (((j : Nat) : Int) : Int))) (R (AV.fv 0 8 0 (List.length xs) ((List.length xs) + k : Nat)) [(0, (Blk.full 41 8 (Q.spare xs k)))] 13) ((AtL (hd Try.f68 5) (hd Try.f68 5)) ∧
 (I 5 { t := [(0, (AV.fv 0 8 0 (List.length xs) ((List.length xs) + k : Nat))), (1, (AV.i IntKind.i64 ((i : Nat) : Int))), (2, (AV.i IntKind.i64 ((j : Nat) : Int))), (7, (AV.i IntKind.i64 (((List.length xs) : Nat) : Int)))], σ := [(0, (Blk.full 41 8 (Q.spare xs k)))], n := 1, m := 33 : St})))))))))
theorem vDel0_eq (xs : List (List AV)) (i j k : Nat) (I : Nat → St → Prop) (R : AV → Heap → Nat → Prop) : vDel0 xs i j k I R = (evB Try.prog TQ Try.f68 [5] (cutK 1 Try.f68 delC I) (sDel0 xs i j k) (bareR R)) := by kernel_rfl

def vDel5 (n c i j : Nat) (zs : List (List AV)) (I : Nat → St → Prop) (R : AV → Heap → Nat → Prop) : Prop :=
 ((((0 : Int) : Int) ≤ ((i : Nat) : Int)) ∧
 (((0 : Nat) ≤ (Int.toNat ((i : Nat) : Int))) ∧
 ((((Int.toNat ((i : Nat) : Int)) : Nat) ≤ c) ∧
 (((c : Nat) ≤ c) ∧
 ((((0 : Int) : Int) ≤ ((j : Nat) : Int)) ∧
 ((((Int.toNat ((j : Nat) : Int)) : Nat) ≤ n) ∧
 (((n : Nat) ≤ c) ∧
 (((c : Nat) ≤ c) ∧
 ((noU (List.take (n - (Int.toNat ((j : Nat) : Int)) : Nat) (List.drop (0 + (Int.toNat ((j : Nat) : Int)) : Nat) zs))) ∧
 ((∀ (y : (List AV)), ((List.Mem y (List.take (n - (Int.toNat ((j : Nat) : Int)) : Nat) (List.drop (0 + (Int.toNat ((j : Nat) : Int)) : Nat) zs))) → ((List.length y) = (8 : Nat)))) ∧
 (True ∧
 (brP (decide (((((Int.toNat ((i : Nat) : Int)) - 0 : Nat) + (List.length (List.take (n - (Int.toNat ((j : Nat) : Int)) : Nat) (List.drop (0 + (Int.toNat ((j : Nat) : Int)) : Nat) zs))) : Nat) : Nat) ≤ (c - 0 : Nat))) ((Bool.true = (Bool.true : Bool)) ∧
 ((AtL (hd Try.f68 6) (hd Try.f68 6)) ∧
 (I 6 { t := [(0, (AV.fv 0 8 0 (((Int.toNat ((i : Nat) : Int)) - 0 : Nat) + (List.length (List.take (n - (Int.toNat ((j : Nat) : Int)) : Nat) (List.drop (0 + (Int.toNat ((j : Nat) : Int)) : Nat) zs))) : Nat) (c - 0 : Nat))), (7, (AV.i IntKind.i64 ((n : Nat) : Int)))], σ := [(0, (Blk.full 41 8 (splice zs (0 + ((Int.toNat ((i : Nat) : Int)) - 0 : Nat) : Nat) (List.take (n - (Int.toNat ((j : Nat) : Int)) : Nat) (List.drop (0 + (Int.toNat ((j : Nat) : Int)) : Nat) zs)))))], n := 1, m := 33 : St}))) (((((List.length (List.take (n - (Int.toNat ((j : Nat) : Int)) : Nat) (List.drop (0 + (Int.toNat ((j : Nat) : Int)) : Nat) zs))) * 88 : Nat) : Nat) ≤ 140737488355328) ∧
 (((((((Int.toNat ((i : Nat) : Int)) - 0 : Nat) + (List.length (List.take (n - (Int.toNat ((j : Nat) : Int)) : Nat) (List.drop (0 + (Int.toNat ((j : Nat) : Int)) : Nat) zs))) : Nat) * 88 : Nat) : Nat) ≤ 140737488355328) ∧
 ((((((Int.toNat ((i : Nat) : Int)) - 0 : Nat) + (List.length (List.take (n - (Int.toNat ((j : Nat) : Int)) : Nat) (List.drop (0 + (Int.toNat ((j : Nat) : Int)) : Nat) zs))) : Nat) : Nat) ≤ 9223372036854775807) ∧
 ((noU (List.take ((Int.toNat ((i : Nat) : Int)) - 0 : Nat) (List.drop 0 zs))) ∧
 ((Bool.true = (Bool.true : Bool)) ∧
 ((AtL (hd Try.f68 6) (hd Try.f68 6)) ∧
 (I 6 { t := [(0, (AV.sl ((List.take ((Int.toNat ((i : Nat) : Int)) - 0 : Nat) (List.drop 0 zs)) ++ (List.take (n - (Int.toNat ((j : Nat) : Int)) : Nat) (List.drop (0 + (Int.toNat ((j : Nat) : Int)) : Nat) zs)) : (List (List AV))))), (7, (AV.i IntKind.i64 ((n : Nat) : Int)))], σ := [(0, (Blk.full 41 8 zs))], n := 1, m := 33 : St})))))))))))))))))))
theorem vDel5_eq (n c i j : Nat) (zs : List (List AV)) (I : Nat → St → Prop) (R : AV → Heap → Nat → Prop) : vDel5 n c i j zs I R = (evH Try.prog TQ Try.f68 [6] (cutK 1 Try.f68 delC I) 5 (sDel5 n c i j zs) (bareR R)) := by kernel_rfl

def vDel6 (n c m : Nat) (zs : List (List AV)) (I : Nat → St → Prop) (R : AV → Heap → Nat → Prop) : Prop :=
 ((((0 : Int) : Int) ≤ ((m : Nat) : Int)) ∧
 ((((0 : Int) : Int) ≤ ((n : Nat) : Int)) ∧
 ((((Int.toNat ((m : Nat) : Int)) : Nat) ≤ (Int.toNat ((n : Nat) : Int))) ∧
 ((((Int.toNat ((n : Nat) : Int)) : Nat) ≤ c) ∧
 (((c : Nat) ≤ c) ∧
 (R (AV.fv 0 8 0 m c) [(0, (Blk.full 41 8 (splice zs (0 + (Int.toNat ((m : Nat) : Int)) : Nat) (List.replicate ((Int.toNat ((n : Nat) : Int)) - (Int.toNat ((m : Nat) : Int)) : Nat) [(AV.s (ByteArray.mk (List.toArray ([] : List UInt8)))), (AV.s (ByteArray.mk (List.toArray ([] : List UInt8)))), (AV.i IntKind.i64 (0 : Int)), (AV.s (ByteArray.mk (List.toArray ([] : List UInt8)))), (AV.i IntKind.i64 (0 : Int)), (AV.i IntKind.i64 (0 : Int)), (AV.i IntKind.i64 (0 : Int)), (AV.i IntKind.i64 (0 : Int))]))))] 9))))))
theorem vDel6_eq (n c m : Nat) (zs : List (List AV)) (I : Nat → St → Prop) (R : AV → Heap → Nat → Prop) : vDel6 n c m zs I R = (evH Try.prog TQ Try.f68 [] noK 6 (sDel6 n c m zs) (bareR R)) := by kernel_rfl

end Go.AM.Q
set_option maxRecDepth 100000
set_option linter.unusedVariables false
set_option linter.unusedSimpArgs false
namespace Go.AM.Q
open Go.Proofs
/-! ### Clone -/
theorem clone_calls (l : List Held) (hl : l.length ≤ 4294967296) : ACalls Try.prog 50 [.sl (rowH l)] [] (.own 0) [(0, .row 41 8 (rowH l))] := by
  refine acalls_runsE (fn := Try.f50) (by kernel_rfl) (by kernel_rfl) ?_
  cases l with
  | nil =>
    refine Runs.sl0 (j := 0) rfl ?_ ?_
    · refine Runs.nilres (e := 41) (sz := 8) (runs_evB (vClN_eq _) (by kernel_rfl) noK_runs ?_)
      exact ⟨[4], rfl, rfl⟩
    · refine runs_evB (vClE_eq _) (by kernel_rfl) noK_runs ?_
      exact ⟨by omega, by omega, fun y hy => (nomatch hy), [5], rfl, rfl⟩
  | cons h r =>
    refine runs_evB (vClC_eq h.cells (rowH r) _) (by kernel_rfl) noK_runs ?_
    have : (h.cells :: rowH r).length = r.length + 1 := by simp [rowH_len]
    simp only [List.length_cons] at hl
    refine ⟨by rw [this]; omega, by rw [this]; omega, fun y hy => rowH_all (h :: r) y hy, ?_⟩
    exact ⟨[5], rfl, rfl⟩

/-! ### Insert -/
def insL (xs : List (List AV)) (i : Nat) (y : List AV) : List (List AV) := xs.take i ++ [y] ++ xs.drop i
def insR (xs : List (List AV)) (i : Nat) (y : List AV) : AV → St → Prop := fgtR (dropR [0, 1] (RetE 2 (.own 2) [(2, .row 41 8 (insL xs i y))]))
theorem bare_ins {xs : List (List AV)} {i : Nat} {y : List AV} {v : AV} {s : St} : bareR (fun v σ n => insR xs i y v ⟨[], σ, n, 0⟩) v s → insR xs i y v s := by
  intro h
  unfold bareR insR fgtR at h
  unfold insR fgtR
  exact h
theorem spare_len (xs : List (List AV)) (k : Nat) : (spare xs k).length = xs.length + k := by simp [spare]
theorem spare_take (xs : List (List AV)) (k i : Nat) (h : i ≤ xs.length) : (spare xs k).take i = xs.take i := by
  unfold spare
  rw [List.take_append_of_le_length h]
theorem spare_mid (xs : List (List AV)) (k i m : Nat) (h : i + m ≤ xs.length) : ((spare xs k).drop i).take m = (xs.drop i).take m := by
  unfold spare
  rw [List.drop_append_of_le_length (by omega), List.take_append_of_le_length (by simp; omega)]
theorem noU_sub {xs ys : List (List AV)} (h : noU xs) (hs : ∀ x ∈ ys, x ∈ xs) : noU ys := fun x hx => h x (hs x hx)
abbrev insF : Nat := 49
section
variable {xs : List (List AV)} {y : List AV} {i k : Nat}
theorem runs_ins {id : Nat} {s : St} {VC : Prop} {I : Nat → St → Prop} {stop : List Nat} (e : VC = evH Try.prog TQ Try.f49 stop (cutK 2 Try.f49 insC I) id s (bareR fun v σ n => insR xs i y v ⟨[], σ, n, 0⟩))
    (hI : ∀ id s', I id s' → Runs Try.prog insF 2 (hd Try.f49 id) s' (insR xs i y)) (h : VC) : Runs Try.prog insF 2 (hd Try.f49 id) s (insR xs i y) :=
  (runs_evH (R := bareR fun v σ n => insR xs i y v ⟨[], σ, n, 0⟩) (f := insF) (kk := 2) e (by kernel_rfl) (fun todo s h => Runs.cut h (fun id s' hs => (hI id s' hs).mono fun v s hr => hr)) h).mono fun v s hr => bare_ins hr

theorem ins12 (zs : List (List AV)) : Runs Try.prog insF 2 (hd Try.f49 12) (sIn12 zs (insL xs i y) y) (insR xs i y) := by
  refine runs_ins (vIns12_eq zs _ y (fun _ _ => False) _) (fun _ _ h => h.elim) ?_
  exact ⟨[2], rfl, rfl⟩
theorem ins11 (ws : List (List AV)) (hn : i < xs.length) (h32 : xs.length ≤ 4294967296) (hw : ws.length = xs.length + 1) (ht : ws.take (i + 1) = xs.take i ++ [y]) (h8 : ∀ x ∈ xs, x.length = 8) (hu : noU xs) :
    Runs Try.prog insF 2 (hd Try.f49 11) (sIn10 xs.length i k (spare xs k) ws y) (insR xs i y) := by
  refine runs_ins (vIns11_eq xs.length i k _ ws y (fun id s => id = 12 ∧ s = sIn12 (spare xs k) (insL xs i y) y) _) (fun id s' h => by obtain ⟨rfl, rfl⟩ := h; exact ins12 _) ?_
  have hwr : IntKind.i64.wrap ((i : Int) + 1) = ((i + 1 : Nat) : Int) := by rw [wrap_id (by omega) (by omega)]; simp
  have hmin : min (xs.length - i) (ws.length - (i + 1)) = xs.length - i := by omega
  have hsp : ((spare xs k).drop i).take (xs.length - i) = xs.drop i := by
    rw [spare_mid _ _ _ _ (by omega), List.take_of_length_le (by simp)]
  simp only [vIns11, hwr, Int.toNat_natCast, Nat.zero_add, Nat.sub_zero, hmin, hsp]
  and_intros
  all_goals try (first | trivial | omega)
  · exact noU_sub hu fun x hx => List.mem_of_mem_drop hx
  · exact fun x hx => h8 x (List.mem_of_mem_drop hx)
  · have : splice ws (i + 1) (xs.drop i) = insL xs i y := by
      have hd : ws.drop (i + 1 + (xs.drop i).length) = [] := List.drop_eq_nil_of_le (by rw [List.length_drop]; omega)
      unfold splice insL
      rw [ht, hd, List.append_nil]
    rw [this]
    rfl
theorem ins10 (ws : List (List AV)) (hn : i < xs.length) (h32 : xs.length ≤ 4294967296) (hw : ws.length = xs.length + 1) (ht : ws.take i = xs.take i) (h8 : ∀ x ∈ xs, x.length = 8) (hu : noU xs) (hy : y.length = 8) :
    Runs Try.prog insF 2 (hd Try.f49 10) (sIn10 xs.length i k (spare xs k) ws y) (insR xs i y) := by
  refine runs_ins (vIns10_eq xs.length i k _ ws y (fun id s => id = 11 ∧ s = sIn10 xs.length i k (spare xs k) (splice ws i [y]) y) _) (fun id s' h => by
    obtain ⟨rfl, rfl⟩ := h
    have h1 := length_splice' ws i [y] (by simp; omega)
    refine ins11 _ hn h32 (by omega) ?_ h8 hu
    unfold splice
    rw [ht, List.take_append_of_le_length (by simp; omega), List.take_of_length_le (by simp; omega)]) ?_
  have h1 : [y].take (ws.length - i) = [y] := List.take_of_length_le (by simp; omega)
  simp only [vIns10, Int.toNat_natCast, Nat.zero_add, Nat.sub_zero, h1]
  and_intros
  all_goals try (first | trivial | omega)
  · intro x hx
    cases hx with
    | head => exact hy
    | tail _ h => cases h
theorem ins9 (hn : i < xs.length) (h32 : xs.length ≤ 4294967296) (hk : k = 0) (h8 : ∀ x ∈ xs, x.length = 8) (hu : noU xs) (hy : y.length = 8) :
    Runs Try.prog insF 2 (hd Try.f49 9) (sIn9 xs.length i k (spare xs k) y) (insR xs i y) := by
  subst hk
  refine runs_ins (vIns9_eq xs.length i 0 _ y (fun id s => id = 10 ∧ ∃ ws : List (List AV), s = sIn10 xs.length i 0 (spare xs 0) ws y ∧ ws.length = xs.length + 1 ∧ ws.take i = xs.take i) _) (fun id s' h => by
    obtain ⟨rfl, ws, rfl, h1, h2⟩ := h
    exact ins10 ws hn h32 h1 h2 h8 hu hy) ?_
  have hwr : IntKind.i64.wrap (IntKind.i64.wrap ((xs.length : Int) + 1) - (i : Int)) = ((xs.length + 1 - i : Nat) : Int) := by
    rw [wrap_id (n := (xs.length : Int) + 1) (by omega) (by omega), wrap_id (by omega) (by omega)]; omega
  simp only [vIns9, brP_iff, hwr, Int.toNat_natCast, Nat.zero_add, Nat.sub_zero, List.length_replicate, List.drop_zero, spare_take xs 0 i (by omega)]
  and_intros
  all_goals try (first | trivial | omega)
  · intro x hx
    have := List.eq_of_mem_replicate (show x ∈ List.replicate _ _ from hx)
    subst this
    rfl
  · show (xs.length + 1 - i) * 88 ≤ 140737488355328
    omega
  · intro h
    simp at h
    omega
  · intro _
    and_intros
    all_goals try (first | trivial | omega)
    · exact noU_sub hu fun x hx => List.mem_of_mem_take hx
    · refine ⟨_, rfl, by simp; omega, ?_⟩
      rw [List.take_append_of_le_length (by simp; omega), List.take_of_length_le (by simp; omega)]
theorem ins17 (zs : List (List AV)) (hn : i < xs.length) (hz : zs.length = xs.length + k) (hk : 1 ≤ k) (ht : zs.take (xs.length + 1) = insL xs i y) (hu : noU xs) (hyu : ∀ c ∈ y, c ≠ .u) :
    Runs Try.prog insF 2 (hd Try.f49 17) (sIn17 (xs.length + 1) (xs.length + k) zs y) (insR xs i y) := by
  refine runs_ins (vIns17_eq _ _ zs y (fun _ _ => False) _) (fun _ _ h => h.elim) ?_
  refine ⟨by omega, hz.symm, ?_, [4], ?_⟩
  · rw [ht]
    intro x hx
    unfold insL at hx
    rcases List.mem_append.1 hx with h | h
    · rcases List.mem_append.1 h with h | h
      · exact hu x (List.mem_of_mem_take h)
      · simp at h; subst h; exact hyu
    · exact hu x (List.mem_of_mem_drop h)
  · rw [ht]
    exact ⟨rfl, rfl⟩
theorem ins16 (zs : List (List AV)) (hn : i < xs.length) (hz : zs.length = xs.length + k) (hk : 1 ≤ k) (ht : zs.take i = xs.take i) (hdr : (zs.drop (i + 1)).take (xs.length - i) = xs.drop i) (hu : noU xs) (hy : y.length = 8) (hyu : ∀ c ∈ y, c ≠ .u) :
    Runs Try.prog insF 2 (hd Try.f49 16) (sIn14 (xs.length + 1) i (xs.length + k) zs y) (insR xs i y) := by
  refine runs_ins (vIns16_eq _ i _ zs y (fun id s => id = 17 ∧ s = sIn17 (xs.length + 1) (xs.length + k) (splice zs i [y]) y) _) (fun id s' h => by
    obtain ⟨rfl, rfl⟩ := h
    have h1 := length_splice' zs i [y] (by simp; omega)
    refine ins17 _ hn (by omega) hk ?_ hu hyu
    unfold splice insL
    rw [ht, List.take_append, List.take_of_length_le (by simp; omega), List.length_append, List.length_take, List.length_singleton, Nat.min_eq_left (by omega), show xs.length + 1 - (i + 1) = xs.length - i by omega, hdr]) ?_
  have h1 : [y].take (xs.length + 1 - i) = [y] := List.take_of_length_le (by simp; omega)
  simp only [vIns16, Int.toNat_natCast, Nat.zero_add, Nat.sub_zero, h1]
  and_intros
  all_goals try (first | trivial | omega)
  · intro x hx
    cases hx with
    | head => exact hy
    | tail _ h => cases h
theorem ins15 (hn : i < xs.length) (h32 : xs.length ≤ 4294967296) (hk : 1 ≤ k) (h8 : ∀ x ∈ xs, x.length = 8) (hu : noU xs) (hy : y.length = 8) (hyu : ∀ c ∈ y, c ≠ .u) :
    Runs Try.prog insF 2 (hd Try.f49 15) (sIn14 (xs.length + 1) i (xs.length + k) (spare xs k) y) (insR xs i y) := by
  refine runs_ins (vIns15_eq _ i _ _ y (fun id s => id = 16 ∧ s = sIn14 (xs.length + 1) i (xs.length + k) (splice (spare xs k) (i + 1) (xs.drop i)) y) _) (fun id s' h => by
    obtain ⟨rfl, rfl⟩ := h
    have hsl := spare_len xs k
    have h1 := length_splice' (spare xs k) (i + 1) (xs.drop i) (by simp [hsl]; omega)
    refine ins16 _ hn (by omega) hk ?_ ?_ hu hy hyu
    · unfold splice
      rw [List.append_assoc, List.take_append_of_le_length (by simp [hsl]; omega), List.take_take, Nat.min_eq_left (by omega), spare_take xs k i (by omega)]
    · unfold splice
      have h2 : ((spare xs k).take (i + 1)).length = i + 1 := by simp [hsl]; omega
      rw [List.append_assoc, List.drop_append_of_le_length (by omega), List.drop_eq_nil_of_le (by omega), List.nil_append, List.take_append_of_le_length (by simp), List.take_of_length_le (by simp)]) ?_
  have hwr : IntKind.i64.wrap ((i : Int) + 1) = ((i + 1 : Nat) : Int) := by rw [wrap_id (by omega) (by omega)]; simp
  have hmin : min (xs.length + 1 - i) (xs.length + 1 - (i + 1)) = xs.length - i := by omega
  have hsp : ((spare xs k).drop i).take (xs.length - i) = xs.drop i := by
    rw [spare_mid _ _ _ _ (by omega), List.take_of_length_le (by simp)]
  simp only [vIns15, hwr, Int.toNat_natCast, Nat.zero_add, Nat.sub_zero, hmin, hsp]
  and_intros
  all_goals try (first | trivial | omega)
  · exact noU_sub hu fun x hx => List.mem_of_mem_drop hx
  · exact fun x hx => h8 x (List.mem_of_mem_drop hx)
/-- Two rows in two blocks do not overlap. -/
theorem overlaps_calls {i a b : Nat} {zs ws : List (List AV)} (hz : 0 < zs.length) (hb : 0 < b) (F : Nat → Option Blk) (h1 : F 1 = some (.row 41 8 ws)) (h0 : F 0 = some (.full 41 8 zs)) (hw : 0 < ws.length) :
    NCalls Try.prog 72 [.own 1, .fv 0 8 i a b] F (.b false) := by
  intro w β ok σ vs hargs hm hF
  have hsz : vs.size = 2 := hargs.1.symm
  obtain ⟨v0, v1, rfl⟩ : ∃ v0 v1, vs = #[v0, v1] := by
    match vs, hsz with
    | ⟨[a, b]⟩, _ => exact ⟨a, b, rfl⟩
  have r0 := hargs.2 0 _ v0 rfl rfl
  have r1 := hargs.2 1 _ v1 rfl rfl
  obtain ⟨A, g, l, c', rfl, hbt, f1, f2, f3⟩ := rep_fv r1
  obtain ⟨rfl, hmx, cur, hh, hcs, hr⟩ := blk_full (hm.blks 0 _ (hF 0 _ h0)) hbt
  have hl1 := hF 1 _ h1
  have hl0 := hF 0 _ h0
  cases hm.blks 1 _ hl1 with
  | @row _ _ _ v cells hb0 ho hrr =>
    cases r0 with
    | p hp => cases hp
    | @own _ A1 l1 c1 hp =>
      rw [hp] at hb0
      simp only [Option.some.injEq] at hb0
      subst hb0
      rcases ho.2 with ⟨e1, e2⟩ | ⟨g1, cap1, cur1, e1, _, hh1, hnc1, _, hcs1, _⟩
      · omega
      · simp only [Value.slice.injEq] at e1
        obtain ⟨rfl, _, rfl⟩ := e1
        have hne : g1 ≠ g := fun e => hm.inj 1 0 _ _ g1 (by omega) hl1 hl0 (by rw [blockOf_some hp]; rfl) (by rw [blockOf_some hbt, e]; rfl)
        refine ⟨.bool false, ?_, .p (.b false)⟩
        rw [run_callFunc_extern (f := 72) (fn := Try.f72) (by kernel_rfl) (by kernel_rfl) (by kernel_rfl) (by kernel_rfl) (e := Extern.SlicesOverlaps.overlaps #[22, 22] #[4]) (by kernel_rfl)]
        have hu : Try.prog.underlying 22 = some (.slice 41) := by kernel_rfl
        have hs8 : ∀ w, (Go.sizeOf 41).run Try.prog w = .ok 8 w := fun w => run_sizeOf w (show sizeT Try.prog 41 = some 8 by kernel_rfl)
        have hcur : cur.size ≠ 0 := by rw [hcs]; omega
        have sh1 : w.shape? g1 = some (41, cur1.size) := by simp [World.shape?, hh1]
        have sh0 : w.shape? g = some (41, cur.size) := by simp [World.shape?, hh]
        have := f3 hb
        subst this
        rw [Lib.run_overlaps_apart w _ _ _ hu 8 hs8 ⟨g1, 0, none⟩ ⟨g, i * 8, none⟩ _ _ _ _ hne _ _ _ _ sh1 sh0 hcur (by simp [World.frozen?, hh1]) (by simp [World.frozen?, hh1])]
        rfl
theorem ins14 (hn : i < xs.length) (h32 : xs.length ≤ 4294967296) (hk : 1 ≤ k) (h8 : ∀ x ∈ xs, x.length = 8) (hu : noU xs) (hy : y.length = 8) (hyu : ∀ c ∈ y, c ≠ .u) :
    Runs Try.prog insF 2 (hd Try.f49 14) (sIn14 (xs.length + 1) i (xs.length + k) (spare xs k) y) (insR xs i y) := by
  refine runs_ins (vIns14_eq _ i _ _ y (fun id s => id = 15 ∧ s = sIn14 (xs.length + 1) i (xs.length + k) (spare xs k) y) _) (fun id s' h => by
    obtain ⟨rfl, rfl⟩ := h
    exact ins15 hn h32 hk h8 hu hy hyu) ?_
  have hwr : IntKind.i64.wrap ((i : Int) + 1) = ((i + 1 : Nat) : Int) := by rw [wrap_id (by omega) (by omega)]; simp
  simp only [vIns14, brP_iff, hwr, Int.toNat_natCast, Nat.zero_add, Nat.sub_zero]
  and_intros
  all_goals try (first | trivial | omega)
  exact ⟨false, overlaps_calls (by rw [spare_len]; omega) (by omega) _ rfl rfl (by simp), fun _ => ⟨by trivial, by trivial, rfl⟩, fun h => by simp at h⟩
theorem ins13 (hn : i < xs.length) (h32 : xs.length ≤ 4294967296) (hk : 1 ≤ k) (h8 : ∀ x ∈ xs, x.length = 8) (hu : noU xs) (hy : y.length = 8) (hyu : ∀ c ∈ y, c ≠ .u) :
    Runs Try.prog insF 2 (hd Try.f49 13) (sIn9 xs.length i k (spare xs k) y) (insR xs i y) := by
  refine runs_ins (vIns13_eq _ i k _ y (fun id s => id = 14 ∧ s = sIn14 (xs.length + 1) i (xs.length + k) (spare xs k) y) _) (fun id s' h => by
    obtain ⟨rfl, rfl⟩ := h
    exact ins14 hn h32 hk h8 hu hy hyu) ?_
  have hwr : IntKind.i64.wrap ((xs.length : Int) + 1) = ((xs.length + 1 : Nat) : Int) := by rw [wrap_id (by omega) (by omega)]; simp
  simp only [vIns13, hwr, Int.toNat_natCast, Nat.zero_add, Nat.sub_zero]
  and_intros
  all_goals try (first | trivial | omega)
theorem insert_calls (hi : i ≤ xs.length) (h32 : xs.length ≤ 4294967296) (h8 : ∀ x ∈ xs, x.length = 8) (hu : noU xs) (hy : y.length = 8) (hyu : ∀ c ∈ y, c ≠ .u) :
    ACalls Try.prog insF [.own 0, .i .i64 i, .own 1] [(0, .row 41 8 xs), (1, .row 41 8 [y])] (.own 2) [(2, .row 41 8 (insL xs i y))] := by
  refine acalls_runsE (fn := Try.f49) (by kernel_rfl) (by kernel_rfl) ?_
  by_cases hn : i < xs.length
  · refine Runs.dropres (ns := [0, 1]) (Runs.fgtres ?_)
    refine Runs.reveal (j := 0) (n := 0) rfl rfl (by omega) (fun k hk => ?_)
    refine (runs_evB (R := bareR fun v σ n => insR xs i y v ⟨[], σ, n, 0⟩) (vIns0_eq xs y i k (fun id s => (id = 9 ∧ s = sIn9 xs.length i k (spare xs k) y ∧ k = 0) ∨ (id = 13 ∧ s = sIn9 xs.length i k (spare xs k) y ∧ 1 ≤ k)) _) (by kernel_rfl) (fun todo s h => Runs.cut h (fun id s' hs => ?_)) ?_).mono fun v s hr => ?_
    · rcases hs with ⟨rfl, rfl, h0⟩ | ⟨rfl, rfl, h1⟩
      · exact (ins9 hn h32 h0 h8 hu hy).mono fun v s hr => hr
      · exact (ins13 hn h32 h1 h8 hu hy hyu).mono fun v s hr => hr
    · have hwr : IntKind.i64.wrap ((xs.length : Int) + 1) = ((xs.length + 1 : Nat) : Int) := by rw [wrap_id (by omega) (by omega)]; simp
      simp only [vIns0, brP_iff, hwr, Int.toNat_natCast]
      and_intros
      all_goals try (first | trivial | omega)
      · intro h; simp at h; omega
      · intro _
        and_intros
        · intro h
          simp at h
          exact ⟨by trivial, .inl ⟨by trivial, rfl, by omega⟩⟩
        · intro h
          simp at h
          exact ⟨by trivial, .inr ⟨by trivial, rfl, by omega⟩⟩
    · exact bare_ins hr
  · have hin : i = xs.length := by omega
    subst hin
    refine Runs.dropres (ns := [0, 1]) (runs_evB (R := bareR fun v σ n => dropR [0, 1] (RetE 2 (.own 2) [(2, .row 41 8 (insL xs xs.length y))]) v ⟨[], σ, n, 0⟩) (vInsE_eq xs y xs.length (fun _ _ => False) _) (by kernel_rfl) (fun todo s h => h.elim) ?_ |>.mono fun v s hr => hr)
    simp only [vInsE, brP_iff, Int.toNat_natCast]
    and_intros
    all_goals try (first | trivial | omega)
    · intro _
      and_intros
      all_goals try (first | trivial | omega)
      · intro x hx
        cases hx with
        | head => exact hy
        | tail _ h => cases h
      · have : insL xs xs.length y = xs ++ [y] := by simp [insL]
        rw [this]
        exact ⟨[19], rfl, rfl⟩

/-! ### Delete -/
def delL (xs : List (List AV)) (i j : Nat) : List (List AV) := xs.take i ++ xs.drop j
def delR (xs : List (List AV)) (i j : Nat) : AV → St → Prop := fgtR (RetE 1 (.own 1) [(1, .row 41 8 (delL xs i j))])
theorem bare_del {j : Nat} {v : AV} {s : St} : bareR (fun v σ n => delR xs i j v ⟨[], σ, n, 0⟩) v s → delR xs i j v s := by
  intro h
  unfold bareR delR fgtR at h
  unfold delR fgtR
  exact h
abbrev delF : Nat := 68
theorem del6 {j : Nat} (zs : List (List AV)) (hij : i < j) (hj : j ≤ xs.length) (hz : zs.length = xs.length + k) (ht : zs.take (i + (xs.length - j)) = delL xs i j) (hu : noU xs) :
    Runs Try.prog delF 1 (hd Try.f68 6) (sDel6 xs.length (xs.length + k) (i + (xs.length - j)) zs) (delR xs i j) := by
  refine (runs_evH (R := bareR fun v σ n => delR xs i j v ⟨[], σ, n, 0⟩) (f := delF) (kk := 1) (vDel6_eq xs.length _ _ zs (fun _ _ => False) _) (by kernel_rfl) noK_runs ?_).mono fun v s hr => bare_del hr
  simp only [vDel6, Int.toNat_natCast, Nat.zero_add, Nat.sub_zero]
  refine ⟨by omega, by omega, by omega, by omega, by omega, ?_⟩
  have hlen : i + (xs.length - j) ≤ zs.length := by omega
  have hsl : ∀ z : List AV, (splice zs (i + (xs.length - j)) (List.replicate (xs.length - (i + (xs.length - j))) z)).length = zs.length := fun z => length_splice' _ _ _ (by simp; omega)
  have hst : ∀ z : List AV, (splice zs (i + (xs.length - j)) (List.replicate (xs.length - (i + (xs.length - j))) z)).take (i + (xs.length - j)) = delL xs i j := by
    intro z
    unfold splice
    rw [List.append_assoc, List.take_append_of_le_length (by simp; omega), List.take_take, Nat.min_self, ht]
  refine ⟨by omega, by rw [hsl, hz], ?_, [9], ?_⟩
  · rw [hst]
    intro x hx
    unfold delL at hx
    rcases List.mem_append.1 hx with h | h
    · exact hu x (List.mem_of_mem_take h)
    · exact hu x (List.mem_of_mem_drop h)
  · rw [hst]
    exact ⟨rfl, rfl⟩
theorem del5 {j : Nat} (hij : i < j) (hj : j ≤ xs.length) (h32 : xs.length ≤ 4294967296) (h8 : ∀ x ∈ xs, x.length = 8) (hu : noU xs) :
    Runs Try.prog delF 1 (hd Try.f68 5) (sDel5 xs.length (xs.length + k) i j (spare xs k)) (delR xs i j) := by
  have hsp : ((spare xs k).drop j).take (xs.length - j) = xs.drop j := by
    rw [spare_mid _ _ _ _ (by omega), List.take_of_length_le (by simp)]
  refine (runs_evH (R := bareR fun v σ n => delR xs i j v ⟨[], σ, n, 0⟩) (f := delF) (kk := 1) (vDel5_eq xs.length _ i j _ (fun id s => id = 6 ∧ s = sDel6 xs.length (xs.length + k) (i + (xs.length - j)) (splice (spare xs k) i (xs.drop j))) _) (by kernel_rfl) (fun todo s h => Runs.cut h (fun id s' hs => ?_)) ?_).mono fun v s hr => bare_del hr
  · obtain ⟨rfl, rfl⟩ := hs
    have hsl := spare_len xs k
    refine (del6 _ hij hj (by rw [length_splice' _ _ _ (by simp [hsl]; omega), hsl]) ?_ hu).mono fun v s hr => hr
    unfold splice delL
    rw [spare_take xs k i (by omega), List.take_append_of_le_length (by simp; omega), List.take_of_length_le (by simp; omega)]
  · simp only [vDel5, brP_iff, Int.toNat_natCast, Nat.zero_add, Nat.sub_zero, hsp]
    have hdl : (xs.drop j).length = xs.length - j := by simp
    rw [hdl]
    and_intros
    all_goals try (first | trivial | omega)
    · exact noU_sub hu fun x hx => List.mem_of_mem_drop hx
    · exact fun x hx => h8 x (List.mem_of_mem_drop hx)
    · intro _
      exact ⟨by trivial, by trivial, by trivial, rfl⟩
    · intro h
      simp at h
      omega
theorem delete_calls {j : Nat} (hij : i < j) (hj : j ≤ xs.length) (h32 : xs.length ≤ 4294967296) (h8 : ∀ x ∈ xs, x.length = 8) (hu : noU xs) :
    ACalls Try.prog delF [.own 0, .i .i64 i, .i .i64 j] [(0, .row 41 8 xs)] (.own 1) [(1, .row 41 8 (delL xs i j))] := by
  refine acalls_runsE (fn := Try.f68) (by kernel_rfl) (by kernel_rfl) ?_
  refine Runs.fgtres (Runs.reveal (j := 0) (n := 0) rfl rfl (by omega) (fun k hk => ?_))
  refine (runs_evB (R := bareR fun v σ n => delR xs i j v ⟨[], σ, n, 0⟩) (vDel0_eq xs i j k (fun id s => id = 5 ∧ s = sDel5 xs.length (xs.length + k) i j (spare xs k)) _) (by kernel_rfl) (fun todo s h => Runs.cut h (fun id s' hs => ?_)) ?_).mono fun v s hr => bare_del hr
  · obtain ⟨rfl, rfl⟩ := hs
    exact (del5 hij hj h32 h8 hu).mono fun v s hr => hr
  · simp only [vDel0, brP_iff, Int.toNat_natCast]
    and_intros
    all_goals try (first | trivial | omega)
    · intro h; simp at h; omega
    · intro _
      exact ⟨by trivial, by trivial, rfl⟩
end
end Go.AM.Q
set_option maxRecDepth 100000
set_option linter.unusedVariables false
namespace Go.AM.Q
open Go.Proofs
--BEGIN
def vAdd (a b c : Int) (l : List Held) (p t : ByteArray) (e : Int) (o : ByteArray) (f u : Int) (v : AV) : Prop :=
 (∃ x : Bool, ((ACalls Try.prog 13 [(AV.ag [(AV.i IntKind.i64 a), (AV.i IntKind.i64 b), (AV.i IntKind.i64 c), (AV.sl (Q.rowH l))])] ([] : List (Prod Nat Blk)) (AV.b x) ([] : List (Prod Nat Blk))) ∧
 (brP (!x) (((AV.tup [(AV.ag [(AV.i IntKind.i64 (0 : Int)), (AV.i IntKind.i64 (0 : Int)), (AV.i IntKind.i64 (0 : Int)), (AV.sl ([] : List (List AV)))]), (AV.i IntKind.i64 (1 : Int))]) = (v : AV)) ∧
 (([] : List (Prod Nat Blk)) = (([] : List (Prod Nat Blk)) : Heap))) (∃ x1 : Bool, ((ACalls Try.prog 44 [(AV.ag [(AV.s p), (AV.s t), (AV.i IntKind.i64 e), (AV.s o), (AV.i IntKind.i64 f), (AV.i IntKind.i64 u), (AV.i IntKind.i64 (0 : Int)), (AV.i IntKind.i64 (0 : Int))])] ([] : List (Prod Nat Blk)) (AV.b x1) ([] : List (Prod Nat Blk))) ∧
 (brP (!x1) (((AV.tup [(AV.ag [(AV.i IntKind.i64 (0 : Int)), (AV.i IntKind.i64 (0 : Int)), (AV.i IntKind.i64 (0 : Int)), (AV.sl ([] : List (List AV)))]), (AV.i IntKind.i64 (1 : Int))]) = (v : AV)) ∧
 (([] : List (Prod Nat Blk)) = (([] : List (Prod Nat Blk)) : Heap))) (brP (decide ((f : Int) < (0 : Int))) (((AV.tup [(AV.ag [(AV.i IntKind.i64 (0 : Int)), (AV.i IntKind.i64 (0 : Int)), (AV.i IntKind.i64 (0 : Int)), (AV.sl ([] : List (List AV)))]), (AV.i IntKind.i64 (3 : Int))]) = (v : AV)) ∧
 (([] : List (Prod Nat Blk)) = (([] : List (Prod Nat Blk)) : Heap))) (brP (decide ((u : Int) ≤ f)) (((AV.tup [(AV.ag [(AV.i IntKind.i64 (0 : Int)), (AV.i IntKind.i64 (0 : Int)), (AV.i IntKind.i64 (0 : Int)), (AV.sl ([] : List (List AV)))]), (AV.i IntKind.i64 (3 : Int))]) = (v : AV)) ∧
 (([] : List (Prod Nat Blk)) = (([] : List (Prod Nat Blk)) : Heap))) (brP (decide (((1073741824 : Int) : Int) < u)) (((AV.tup [(AV.ag [(AV.i IntKind.i64 (0 : Int)), (AV.i IntKind.i64 (0 : Int)), (AV.i IntKind.i64 (0 : Int)), (AV.sl ([] : List (List AV)))]), (AV.i IntKind.i64 (3 : Int))]) = (v : AV)) ∧
 (([] : List (Prod Nat Blk)) = (([] : List (Prod Nat Blk)) : Heap))) (brP (decide ((c : Int) < (IntKind.wrap IntKind.i64 (u - f : Int)))) (((AV.tup [(AV.ag [(AV.i IntKind.i64 (0 : Int)), (AV.i IntKind.i64 (0 : Int)), (AV.i IntKind.i64 (0 : Int)), (AV.sl ([] : List (List AV)))]), (AV.i IntKind.i64 (44 : Int))]) = (v : AV)) ∧
 (([] : List (Prod Nat Blk)) = (([] : List (Prod Nat Blk)) : Heap))) (∃ x2 : Bool, ((ACalls Try.prog 45 [(AV.sl (Q.rowH l)), (AV.fn 46 ([] : List AV) [(AV.pp [(AV.s p), (AV.s t), (AV.i IntKind.i64 e), (AV.s o), (AV.i IntKind.i64 f), (AV.i IntKind.i64 u), (AV.i IntKind.i64 (0 : Int)), (AV.i IntKind.i64 (0 : Int))])])] ([] : List (Prod Nat Blk)) (AV.b x2) ([] : List (Prod Nat Blk))) ∧
 (brP x2 (((AV.tup [(AV.ag [(AV.i IntKind.i64 (0 : Int)), (AV.i IntKind.i64 (0 : Int)), (AV.i IntKind.i64 (0 : Int)), (AV.sl ([] : List (List AV)))]), (AV.i IntKind.i64 (19 : Int))]) = (v : AV)) ∧
 (([] : List (Prod Nat Blk)) = (([] : List (Prod Nat Blk)) : Heap))) (brP (decide ((((List.length (Q.rowH l)) : Nat) : Int) = (b : Int))) (((AV.tup [(AV.ag [(AV.i IntKind.i64 (0 : Int)), (AV.i IntKind.i64 (0 : Int)), (AV.i IntKind.i64 (0 : Int)), (AV.sl ([] : List (List AV)))]), (AV.i IntKind.i64 (42 : Int))]) = (v : AV)) ∧
 (([] : List (Prod Nat Blk)) = (([] : List (Prod Nat Blk)) : Heap))) (∃ n : Int, ((ACalls Try.prog 20 [(AV.ag [(AV.i IntKind.i64 a), (AV.i IntKind.i64 b), (AV.i IntKind.i64 c), (AV.sl (Q.rowH l))]), (AV.s o)] ([] : List (Prod Nat Blk)) (AV.i IntKind.i64 n) ([] : List (Prod Nat Blk))) ∧
 ((Bool.true = (Bool.true : Bool)) ∧
 (brP (decide (n = (a : Int))) (((AV.tup [(AV.ag [(AV.i IntKind.i64 (0 : Int)), (AV.i IntKind.i64 (0 : Int)), (AV.i IntKind.i64 (0 : Int)), (AV.sl ([] : List (List AV)))]), (AV.i IntKind.i64 (43 : Int))]) = (v : AV)) ∧
 (([] : List (Prod Nat Blk)) = (([] : List (Prod Nat Blk)) : Heap))) (∃ n1 : Int, (∃ x3 : Bool, ((ACalls Try.prog 47 [(AV.sl (Q.rowH l)), (AV.ag [(AV.s p), (AV.s t), (AV.i IntKind.i64 e), (AV.s o), (AV.i IntKind.i64 f), (AV.i IntKind.i64 u), (AV.i IntKind.i64 (0 : Int)), (AV.i IntKind.i64 (0 : Int))]), (AV.fn 48 ([] : List AV) ([] : List AV))] ([] : List (Prod Nat Blk)) (AV.tup [(AV.i IntKind.i64 n1), (AV.b x3)]) ([] : List (Prod Nat Blk))) ∧
 ((ACalls Try.prog 50 [(AV.sl (Q.rowH l))] ([] : List (Prod Nat Blk)) (AV.own 0) [(0, (Blk.row 41 8 (Q.rowH l)))]) ∧
 ((ACalls Try.prog 49 [(AV.own 0), (AV.i IntKind.i64 n1), (AV.own 1)] [(0, (Blk.row 41 8 (Q.rowH l))), (1, (Blk.row 41 8 [[(AV.s p), (AV.s t), (AV.i IntKind.i64 e), (AV.s o), (AV.i IntKind.i64 f), (AV.i IntKind.i64 u), (AV.i IntKind.i64 (0 : Int)), (AV.i IntKind.i64 (0 : Int))]]))] (AV.own 2) [(2, (Blk.row 41 8 (((List.take (Int.toNat n1) (Q.rowH l)) ++ [[(AV.s p), (AV.s t), (AV.i IntKind.i64 e), (AV.s o), (AV.i IntKind.i64 f), (AV.i IntKind.i64 u), (AV.i IntKind.i64 (0 : Int)), (AV.i IntKind.i64 (0 : Int))]] : (List (List AV))) ++ (List.drop (Int.toNat n1) (Q.rowH l)) : (List (List AV)))))]) ∧
 ((Bool.true = (Bool.true : Bool)) ∧
 (((AV.tup [(AV.ag [(AV.i IntKind.i64 a), (AV.i IntKind.i64 b), (AV.i IntKind.i64 c), (AV.sl (((List.take (Int.toNat n1) (Q.rowH l)) ++ [[(AV.s p), (AV.s t), (AV.i IntKind.i64 e), (AV.s o), (AV.i IntKind.i64 f), (AV.i IntKind.i64 u), (AV.i IntKind.i64 (0 : Int)), (AV.i IntKind.i64 (0 : Int))]] : (List (List AV))) ++ (List.drop (Int.toNat n1) (Q.rowH l)) : (List (List AV))))]), (AV.i IntKind.i64 (0 : Int))]) = (v : AV)) ∧
 (([] : List (Prod Nat Blk)) = (([] : List (Prod Nat Blk)) : Heap)))))))))))))))))))))))))))
theorem vAdd_eq (a b c : Int) (l : List Held) (p t : ByteArray) (e : Int) (o : ByteArray) (f u : Int) (v : AV) : vAdd a b c l p t e o f u v = (evF Try.prog TQ Try.f24 [] noK [qAV a b c (rowH l), .ag [.s p, .s t], .i .i64 e, .s o, .i .i64 f, .i .i64 u] [] [] v []) := by kernel_rfl

def vRel1 (xs : List (List AV)) (j : Nat) (v : AV) (σ : Heap) : Prop :=
 (((AV.tup [(AV.b Bool.false), (AV.i IntKind.i64 (0 : Int))]) = (v : AV)) ∧
 ([(0, (Blk.row 41 8 xs))] = (σ : Heap)))
theorem vRel1_eq (xs : List (List AV)) (j : Nat) (v : AV) (σ : Heap) : vRel1 xs j v σ = (evF Try.prog TQ Try.f41 [] noK [.eptr 0 8 j 0] [(0, .row 41 8 xs)] [] v σ) := by kernel_rfl

def vChg1 (xs : List (List AV)) (j : Nat) (v : AV) (σ : Heap) : Prop :=
 (∃ n : Int, ((∃ el : (List AV), (((xs)[j]? = ((Option.some el) : (Option (List AV)))) ∧
 (((List.take 1 (List.drop 7 el)) = ([(AV.i IntKind.i64 n)] : (List AV))) ∧
 (1 = (1 : Nat))))) ∧
 (brP (decide (n = ((1073741824 : Int) : Int))) (((AV.tup [(AV.b Bool.true), (AV.i IntKind.i64 (2 : Int))]) = (v : AV)) ∧
 ([(0, (Blk.row 41 8 xs))] = (σ : Heap))) (∃ n1 : Int, ((∃ el : (List AV), (((xs)[j]? = ((Option.some el) : (Option (List AV)))) ∧
 (((List.take 1 (List.drop 7 el)) = ([(AV.i IntKind.i64 n1)] : (List AV))) ∧
 (1 = (1 : Nat))))) ∧
 (∃ el : (List AV), (((xs)[j]? = ((Option.some el) : (Option (List AV)))) ∧
 (((8 : Nat) ≤ (List.length el)) ∧
 (((AV.tup [(AV.b Bool.true), (AV.i IntKind.i64 (0 : Int))]) = (v : AV)) ∧
 ([(0, (Blk.row 41 8 (List.set xs j (splice el 7 [(AV.i IntKind.i64 (IntKind.wrap IntKind.i64 (n1 + (1 : Int) : Int)))]))))] = (σ : Heap)))))))))))
theorem vChg1_eq (xs : List (List AV)) (j : Nat) (v : AV) (σ : Heap) : vChg1 xs j v σ = (evF Try.prog TQ Try.f43 [] noK [.eptr 0 8 j 0] [(0, .row 41 8 xs)] [] v σ) := by kernel_rfl

def vRen1 (xs : List (List AV)) (j : Nat) (u n a b c : Int) (l : List Held) (v : AV) (σ : Heap) : Prop :=
 (∃ x : ByteArray, (∃ x1 : ByteArray, (∃ n1 : Int, (∃ x2 : ByteArray, (∃ n2 : Int, (∃ n3 : Int, (∃ n4 : Int, (∃ n5 : Int, ((∃ el : (List AV), (((xs)[j]? = ((Option.some el) : (Option (List AV)))) ∧
 (((List.take 8 (List.drop 0 el)) = ([(AV.s x), (AV.s x1), (AV.i IntKind.i64 n1), (AV.s x2), (AV.i IntKind.i64 n2), (AV.i IntKind.i64 n3), (AV.i IntKind.i64 n4), (AV.i IntKind.i64 n5)] : (List AV))) ∧
 ((List.length (([(AV.s x)] ++ ([(AV.s x1)] ++ ([] : List AV) : (List AV)) : (List AV)) ++ ([(AV.i IntKind.i64 n1)] ++ ([(AV.s x2)] ++ ([(AV.i IntKind.i64 n2)] ++ ([(AV.i IntKind.i64 n3)] ++ ([(AV.i IntKind.i64 n4)] ++ ([(AV.i IntKind.i64 n5)] ++ ([] : List AV) : (List AV)) : (List AV)) : (List AV)) : (List AV)) : (List AV)) : (List AV)) : (List AV))) = (8 : Nat))))) ∧
 (brP (decide (n4 = ((1 : Int) : Int))) (((AV.tup [(AV.b Bool.true), (AV.i IntKind.i64 (45 : Int))]) = (v : AV)) ∧
 ([(0, (Blk.row 41 8 xs))] = (σ : Heap))) (brP (decide ((u : Int) ≤ n3)) (((AV.tup [(AV.b Bool.true), (AV.i IntKind.i64 (3 : Int))]) = (v : AV)) ∧
 ([(0, (Blk.row 41 8 xs))] = (σ : Heap))) (brP (decide (((1073741824 : Int) : Int) < u)) (((AV.tup [(AV.b Bool.true), (AV.i IntKind.i64 (3 : Int))]) = (v : AV)) ∧
 ([(0, (Blk.row 41 8 xs))] = (σ : Heap))) (brP (decide ((c : Int) < (IntKind.wrap IntKind.i64 (u - n : Int)))) (((AV.tup [(AV.b Bool.true), (AV.i IntKind.i64 (44 : Int))]) = (v : AV)) ∧
 ([(0, (Blk.row 41 8 xs))] = (σ : Heap))) (∃ x3 : Bool, ((ACalls Try.prog 45 [(AV.sl (Q.rowH l)), (AV.fn 55 ([] : List AV) [(AV.pp [(AV.s x), (AV.s x1), (AV.i IntKind.i64 n1), (AV.s x2), (AV.i IntKind.i64 n2), (AV.i IntKind.i64 n3), (AV.i IntKind.i64 n4), (AV.i IntKind.i64 n5)]), (AV.pp [(AV.s x), (AV.s x1), (AV.i IntKind.i64 n1), (AV.s x2), (AV.i IntKind.i64 n2), (AV.i IntKind.i64 u), (AV.i IntKind.i64 (1 : Int)), (AV.i IntKind.i64 n5)])])] ([] : List (Prod Nat Blk)) (AV.b x3) ([] : List (Prod Nat Blk))) ∧
 (brP x3 (((AV.tup [(AV.b Bool.true), (AV.i IntKind.i64 (19 : Int))]) = (v : AV)) ∧
 ([(0, (Blk.row 41 8 xs))] = (σ : Heap))) (∃ el : (List AV), (((xs)[j]? = ((Option.some el) : (Option (List AV)))) ∧
 (((8 : Nat) ≤ (List.length el)) ∧
 (((AV.tup [(AV.b Bool.true), (AV.i IntKind.i64 (0 : Int))]) = (v : AV)) ∧
 ([(0, (Blk.row 41 8 (List.set xs j (splice el 0 [(AV.s x), (AV.s x1), (AV.i IntKind.i64 n1), (AV.s x2), (AV.i IntKind.i64 n2), (AV.i IntKind.i64 u), (AV.i IntKind.i64 (1 : Int)), (AV.i IntKind.i64 n5)]))))] = (σ : Heap))))))))))))))))))))))
theorem vRen1_eq (xs : List (List AV)) (j : Nat) (u n a b c : Int) (l : List Held) (v : AV) (σ : Heap) : vRen1 xs j u n a b c l v σ = (evF Try.prog TQ Try.f54 [] noK [.eptr 0 8 j 0, .pp [.i .i64 u], .pp [.i .i64 n], .pp [.i .i64 a, .i .i64 b, .i .i64 c, .sl (rowH l)]] [(0, .row 41 8 xs)] [] v σ) := by kernel_rfl

def vChangeR (u n a' b' c' : Int) (l' : List Held) (a b c : Int) (l : List Held) (m : Mom) (v : AV) : Prop :=
 (∃ x : Bool, ((ACalls Try.prog 13 [(AV.ag [(AV.i IntKind.i64 a), (AV.i IntKind.i64 b), (AV.i IntKind.i64 c), (AV.sl (Q.rowH l))])] ([] : List (Prod Nat Blk)) (AV.b x) ([] : List (Prod Nat Blk))) ∧
 (brP (!x) (((AV.tup [(AV.ag [(AV.i IntKind.i64 (0 : Int)), (AV.i IntKind.i64 (0 : Int)), (AV.i IntKind.i64 (0 : Int)), (AV.sl ([] : List (List AV)))]), (AV.i IntKind.i64 (1 : Int))]) = (v : AV)) ∧
 (([] : List (Prod Nat Blk)) = (([] : List (Prod Nat Blk)) : Heap))) (∃ n1 : Int, ((ACalls Try.prog 42 [(AV.ag [(AV.i IntKind.i64 a), (AV.i IntKind.i64 b), (AV.i IntKind.i64 c), (AV.sl (Q.rowH l))]), (AV.ag [(AV.s (m).1), (AV.s (m).2)]), (AV.i IntKind.i64 (m).3), (AV.i IntKind.i64 (m).4)] ([] : List (Prod Nat Blk)) (AV.i IntKind.i64 n1) ([] : List (Prod Nat Blk))) ∧
 (brP (decide ((n1 : Int) < (0 : Int))) (((AV.tup [(AV.ag [(AV.i IntKind.i64 (0 : Int)), (AV.i IntKind.i64 (0 : Int)), (AV.i IntKind.i64 (0 : Int)), (AV.sl ([] : List (List AV)))]), (AV.i IntKind.i64 (18 : Int))]) = (v : AV)) ∧
 (([] : List (Prod Nat Blk)) = (([] : List (Prod Nat Blk)) : Heap))) ((ACalls Try.prog 50 [(AV.sl (Q.rowH l))] ([] : List (Prod Nat Blk)) (AV.own 0) [(0, (Blk.row 41 8 (Q.rowH l)))]) ∧
 ((((0 : Int) : Int) ≤ n1) ∧
 (((n1 : Int) < (((List.length (Q.rowH l)) : Nat) : Int)) ∧
 (∃ b1 : Bool, (∃ n2 : Int, (∃ xs' : (List (List AV)), ((ACalls Try.prog 54 [(AV.eptr 0 8 (Int.toNat n1) 0), (AV.pp [(AV.i IntKind.i64 u)]), (AV.pp [(AV.i IntKind.i64 n)]), (AV.pp [(AV.i IntKind.i64 a'), (AV.i IntKind.i64 b'), (AV.i IntKind.i64 c'), (AV.sl (Q.rowH l'))])] [(0, (Blk.row 41 8 (Q.rowH l)))] (AV.tup [(AV.b b1), (AV.i IntKind.i64 n2)]) [(0, (Blk.row 41 8 xs'))]) ∧
 (brP (!(decide (n2 = ((0 : Int) : Int)))) (((AV.tup [(AV.ag [(AV.i IntKind.i64 (0 : Int)), (AV.i IntKind.i64 (0 : Int)), (AV.i IntKind.i64 (0 : Int)), (AV.sl ([] : List (List AV)))]), (AV.i IntKind.i64 n2)]) = (v : AV)) ∧
 (([] : List (Prod Nat Blk)) = (([] : List (Prod Nat Blk)) : Heap))) (brP (!b1) ((ACalls Try.prog 68 [(AV.own 0), (AV.i IntKind.i64 n1), (AV.i IntKind.i64 (IntKind.wrap IntKind.i64 (n1 + (1 : Int) : Int)))] [(0, (Blk.row 41 8 xs'))] (AV.own 1) [(1, (Blk.row 41 8 ((List.take (Int.toNat n1) xs') ++ (List.drop (Int.toNat (IntKind.wrap IntKind.i64 (n1 + (1 : Int) : Int))) xs') : (List (List AV)))))]) ∧
 (((AV.tup [(AV.ag [(AV.i IntKind.i64 a), (AV.i IntKind.i64 b), (AV.i IntKind.i64 c), (AV.sl ((List.take (Int.toNat n1) xs') ++ (List.drop (Int.toNat (IntKind.wrap IntKind.i64 (n1 + (1 : Int) : Int))) xs') : (List (List AV))))]), (AV.i IntKind.i64 (0 : Int))]) = (v : AV)) ∧
 (([] : List (Prod Nat Blk)) = (([] : List (Prod Nat Blk)) : Heap)))) (((AV.tup [(AV.ag [(AV.i IntKind.i64 a), (AV.i IntKind.i64 b), (AV.i IntKind.i64 c), (AV.sl xs')]), (AV.i IntKind.i64 (0 : Int))]) = (v : AV)) ∧
 (([] : List (Prod Nat Blk)) = (([] : List (Prod Nat Blk)) : Heap))))))))))))))))))
theorem vChangeR_eq (u n a' b' c' : Int) (l' : List Held) (a b c : Int) (l : List Held) (m : Mom) (v : AV) : vChangeR u n a' b' c' l' a b c l m v = (evF Try.prog TQ Try.f40 [] noK [qAV a b c (rowH l), .ag m.cells, (.fn 54 [] [.pp [.i .i64 u], .pp [.i .i64 n], .pp [.i .i64 a', .i .i64 b', .i .i64 c', .sl (rowH l')]])] [] [] v []) := by kernel_rfl

def vChangeL (a b c : Int) (l : List Held) (m : Mom) (v : AV) : Prop :=
 (∃ x : Bool, ((ACalls Try.prog 13 [(AV.ag [(AV.i IntKind.i64 a), (AV.i IntKind.i64 b), (AV.i IntKind.i64 c), (AV.sl (Q.rowH l))])] ([] : List (Prod Nat Blk)) (AV.b x) ([] : List (Prod Nat Blk))) ∧
 (brP (!x) (((AV.tup [(AV.ag [(AV.i IntKind.i64 (0 : Int)), (AV.i IntKind.i64 (0 : Int)), (AV.i IntKind.i64 (0 : Int)), (AV.sl ([] : List (List AV)))]), (AV.i IntKind.i64 (1 : Int))]) = (v : AV)) ∧
 (([] : List (Prod Nat Blk)) = (([] : List (Prod Nat Blk)) : Heap))) (∃ n : Int, ((ACalls Try.prog 42 [(AV.ag [(AV.i IntKind.i64 a), (AV.i IntKind.i64 b), (AV.i IntKind.i64 c), (AV.sl (Q.rowH l))]), (AV.ag [(AV.s (m).1), (AV.s (m).2)]), (AV.i IntKind.i64 (m).3), (AV.i IntKind.i64 (m).4)] ([] : List (Prod Nat Blk)) (AV.i IntKind.i64 n) ([] : List (Prod Nat Blk))) ∧
 (brP (decide ((n : Int) < (0 : Int))) (((AV.tup [(AV.ag [(AV.i IntKind.i64 (0 : Int)), (AV.i IntKind.i64 (0 : Int)), (AV.i IntKind.i64 (0 : Int)), (AV.sl ([] : List (List AV)))]), (AV.i IntKind.i64 (18 : Int))]) = (v : AV)) ∧
 (([] : List (Prod Nat Blk)) = (([] : List (Prod Nat Blk)) : Heap))) ((ACalls Try.prog 50 [(AV.sl (Q.rowH l))] ([] : List (Prod Nat Blk)) (AV.own 0) [(0, (Blk.row 41 8 (Q.rowH l)))]) ∧
 ((((0 : Int) : Int) ≤ n) ∧
 (((n : Int) < (((List.length (Q.rowH l)) : Nat) : Int)) ∧
 (∃ b1 : Bool, (∃ n1 : Int, (∃ xs' : (List (List AV)), ((ACalls Try.prog 41 [(AV.eptr 0 8 (Int.toNat n) 0)] [(0, (Blk.row 41 8 (Q.rowH l)))] (AV.tup [(AV.b b1), (AV.i IntKind.i64 n1)]) [(0, (Blk.row 41 8 xs'))]) ∧
 (brP (!(decide (n1 = ((0 : Int) : Int)))) (((AV.tup [(AV.ag [(AV.i IntKind.i64 (0 : Int)), (AV.i IntKind.i64 (0 : Int)), (AV.i IntKind.i64 (0 : Int)), (AV.sl ([] : List (List AV)))]), (AV.i IntKind.i64 n1)]) = (v : AV)) ∧
 (([] : List (Prod Nat Blk)) = (([] : List (Prod Nat Blk)) : Heap))) (brP (!b1) ((ACalls Try.prog 68 [(AV.own 0), (AV.i IntKind.i64 n), (AV.i IntKind.i64 (IntKind.wrap IntKind.i64 (n + (1 : Int) : Int)))] [(0, (Blk.row 41 8 xs'))] (AV.own 1) [(1, (Blk.row 41 8 ((List.take (Int.toNat n) xs') ++ (List.drop (Int.toNat (IntKind.wrap IntKind.i64 (n + (1 : Int) : Int))) xs') : (List (List AV)))))]) ∧
 (((AV.tup [(AV.ag [(AV.i IntKind.i64 a), (AV.i IntKind.i64 b), (AV.i IntKind.i64 c), (AV.sl ((List.take (Int.toNat n) xs') ++ (List.drop (Int.toNat (IntKind.wrap IntKind.i64 (n + (1 : Int) : Int))) xs') : (List (List AV))))]), (AV.i IntKind.i64 (0 : Int))]) = (v : AV)) ∧
 (([] : List (Prod Nat Blk)) = (([] : List (Prod Nat Blk)) : Heap)))) (((AV.tup [(AV.ag [(AV.i IntKind.i64 a), (AV.i IntKind.i64 b), (AV.i IntKind.i64 c), (AV.sl xs')]), (AV.i IntKind.i64 (0 : Int))]) = (v : AV)) ∧
 (([] : List (Prod Nat Blk)) = (([] : List (Prod Nat Blk)) : Heap))))))))))))))))))
theorem vChangeL_eq (a b c : Int) (l : List Held) (m : Mom) (v : AV) : vChangeL a b c l m v = (evF Try.prog TQ Try.f40 [] noK [qAV a b c (rowH l), .ag m.cells, (.fn 41 [] [])] [] [] v []) := by kernel_rfl

def vChangeC (a b c : Int) (l : List Held) (m : Mom) (v : AV) : Prop :=
 (∃ x : Bool, ((ACalls Try.prog 13 [(AV.ag [(AV.i IntKind.i64 a), (AV.i IntKind.i64 b), (AV.i IntKind.i64 c), (AV.sl (Q.rowH l))])] ([] : List (Prod Nat Blk)) (AV.b x) ([] : List (Prod Nat Blk))) ∧
 (brP (!x) (((AV.tup [(AV.ag [(AV.i IntKind.i64 (0 : Int)), (AV.i IntKind.i64 (0 : Int)), (AV.i IntKind.i64 (0 : Int)), (AV.sl ([] : List (List AV)))]), (AV.i IntKind.i64 (1 : Int))]) = (v : AV)) ∧
 (([] : List (Prod Nat Blk)) = (([] : List (Prod Nat Blk)) : Heap))) (∃ n : Int, ((ACalls Try.prog 42 [(AV.ag [(AV.i IntKind.i64 a), (AV.i IntKind.i64 b), (AV.i IntKind.i64 c), (AV.sl (Q.rowH l))]), (AV.ag [(AV.s (m).1), (AV.s (m).2)]), (AV.i IntKind.i64 (m).3), (AV.i IntKind.i64 (m).4)] ([] : List (Prod Nat Blk)) (AV.i IntKind.i64 n) ([] : List (Prod Nat Blk))) ∧
 (brP (decide ((n : Int) < (0 : Int))) (((AV.tup [(AV.ag [(AV.i IntKind.i64 (0 : Int)), (AV.i IntKind.i64 (0 : Int)), (AV.i IntKind.i64 (0 : Int)), (AV.sl ([] : List (List AV)))]), (AV.i IntKind.i64 (18 : Int))]) = (v : AV)) ∧
 (([] : List (Prod Nat Blk)) = (([] : List (Prod Nat Blk)) : Heap))) ((ACalls Try.prog 50 [(AV.sl (Q.rowH l))] ([] : List (Prod Nat Blk)) (AV.own 0) [(0, (Blk.row 41 8 (Q.rowH l)))]) ∧
 ((((0 : Int) : Int) ≤ n) ∧
 (((n : Int) < (((List.length (Q.rowH l)) : Nat) : Int)) ∧
 (∃ b1 : Bool, (∃ n1 : Int, (∃ xs' : (List (List AV)), ((ACalls Try.prog 43 [(AV.eptr 0 8 (Int.toNat n) 0)] [(0, (Blk.row 41 8 (Q.rowH l)))] (AV.tup [(AV.b b1), (AV.i IntKind.i64 n1)]) [(0, (Blk.row 41 8 xs'))]) ∧
 (brP (!(decide (n1 = ((0 : Int) : Int)))) (((AV.tup [(AV.ag [(AV.i IntKind.i64 (0 : Int)), (AV.i IntKind.i64 (0 : Int)), (AV.i IntKind.i64 (0 : Int)), (AV.sl ([] : List (List AV)))]), (AV.i IntKind.i64 n1)]) = (v : AV)) ∧
 (([] : List (Prod Nat Blk)) = (([] : List (Prod Nat Blk)) : Heap))) (brP (!b1) ((ACalls Try.prog 68 [(AV.own 0), (AV.i IntKind.i64 n), (AV.i IntKind.i64 (IntKind.wrap IntKind.i64 (n + (1 : Int) : Int)))] [(0, (Blk.row 41 8 xs'))] (AV.own 1) [(1, (Blk.row 41 8 ((List.take (Int.toNat n) xs') ++ (List.drop (Int.toNat (IntKind.wrap IntKind.i64 (n + (1 : Int) : Int))) xs') : (List (List AV)))))]) ∧
 (((AV.tup [(AV.ag [(AV.i IntKind.i64 a), (AV.i IntKind.i64 b), (AV.i IntKind.i64 c), (AV.sl ((List.take (Int.toNat n) xs') ++ (List.drop (Int.toNat (IntKind.wrap IntKind.i64 (n + (1 : Int) : Int))) xs') : (List (List AV))))]), (AV.i IntKind.i64 (0 : Int))]) = (v : AV)) ∧
 (([] : List (Prod Nat Blk)) = (([] : List (Prod Nat Blk)) : Heap)))) (((AV.tup [(AV.ag [(AV.i IntKind.i64 a), (AV.i IntKind.i64 b), (AV.i IntKind.i64 c), (AV.sl xs')]), (AV.i IntKind.i64 (0 : Int))]) = (v : AV)) ∧
 (([] : List (Prod Nat Blk)) = (([] : List (Prod Nat Blk)) : Heap))))))))))))))))))
theorem vChangeC_eq (a b c : Int) (l : List Held) (m : Mom) (v : AV) : vChangeC a b c l m v = (evF Try.prog TQ Try.f40 [] noK [qAV a b c (rowH l), .ag m.cells, (.fn 43 [] [])] [] [] v []) := by kernel_rfl

def vRenew (a b c : Int) (l : List Held) (m : Mom) (u : Int) (v : AV) : Prop :=
 (∃ n : Int, (∃ n1 : Int, (∃ n2 : Int, (∃ xs : (List (List AV)), (∃ n3 : Int, ((ACalls Try.prog 40 [(AV.ag [(AV.i IntKind.i64 a), (AV.i IntKind.i64 b), (AV.i IntKind.i64 c), (AV.sl (Q.rowH l))]), (AV.ag [(AV.s (m).1), (AV.s (m).2), (AV.i IntKind.i64 (m).3), (AV.i IntKind.i64 (m).4)]), (AV.fn 54 ([] : List AV) [(AV.pp [(AV.i IntKind.i64 u)]), (AV.pp [(AV.i IntKind.i64 (m).4)]), (AV.pp [(AV.i IntKind.i64 a), (AV.i IntKind.i64 b), (AV.i IntKind.i64 c), (AV.sl (Q.rowH l))])])] ([] : List (Prod Nat Blk)) (AV.tup [(AV.ag ([(AV.i IntKind.i64 n)] ++ ([(AV.i IntKind.i64 n1)] ++ ([(AV.i IntKind.i64 n2)] ++ ([(AV.sl xs)] ++ ([] : List AV) : (List AV)) : (List AV)) : (List AV)) : (List AV))), (AV.i IntKind.i64 n3)]) ([] : List (Prod Nat Blk))) ∧
 (((AV.tup [(AV.ag [(AV.i IntKind.i64 n), (AV.i IntKind.i64 n1), (AV.i IntKind.i64 n2), (AV.sl xs)]), (AV.i IntKind.i64 n3)]) = (v : AV)) ∧
 (([] : List (Prod Nat Blk)) = (([] : List (Prod Nat Blk)) : Heap)))))))))
theorem vRenew_eq (a b c : Int) (l : List Held) (m : Mom) (u : Int) (v : AV) : vRenew a b c l m u v = (evF Try.prog TQ Try.f31 [] noK [qAV a b c (rowH l), .ag [.s m.p, .s m.t], .i .i64 m.e, .i .i64 m.now, .i .i64 u] [] [] v []) := by kernel_rfl

def vRelease (a b c : Int) (l : List Held) (m : Mom) (v : AV) : Prop :=
 (∃ n : Int, (∃ n1 : Int, (∃ n2 : Int, (∃ xs : (List (List AV)), (∃ n3 : Int, ((ACalls Try.prog 40 [(AV.ag [(AV.i IntKind.i64 a), (AV.i IntKind.i64 b), (AV.i IntKind.i64 c), (AV.sl (Q.rowH l))]), (AV.ag [(AV.s (m).1), (AV.s (m).2), (AV.i IntKind.i64 (m).3), (AV.i IntKind.i64 (m).4)]), (AV.fn 41 ([] : List AV) ([] : List AV))] ([] : List (Prod Nat Blk)) (AV.tup [(AV.ag ([(AV.i IntKind.i64 n)] ++ ([(AV.i IntKind.i64 n1)] ++ ([(AV.i IntKind.i64 n2)] ++ ([(AV.sl xs)] ++ ([] : List AV) : (List AV)) : (List AV)) : (List AV)) : (List AV))), (AV.i IntKind.i64 n3)]) ([] : List (Prod Nat Blk))) ∧
 (((AV.tup [(AV.ag [(AV.i IntKind.i64 n), (AV.i IntKind.i64 n1), (AV.i IntKind.i64 n2), (AV.sl xs)]), (AV.i IntKind.i64 n3)]) = (v : AV)) ∧
 (([] : List (Prod Nat Blk)) = (([] : List (Prod Nat Blk)) : Heap)))))))))
theorem vRelease_eq (a b c : Int) (l : List Held) (m : Mom) (v : AV) : vRelease a b c l m v = (evF Try.prog TQ Try.f19 [] noK [qAV a b c (rowH l), .ag [.s m.p, .s m.t], .i .i64 m.e, .i .i64 m.now] [] [] v []) := by kernel_rfl

def vCharge (a b c : Int) (l : List Held) (m : Mom) (v : AV) : Prop :=
 (∃ n : Int, (∃ n1 : Int, (∃ n2 : Int, (∃ xs : (List (List AV)), (∃ n3 : Int, ((ACalls Try.prog 40 [(AV.ag [(AV.i IntKind.i64 a), (AV.i IntKind.i64 b), (AV.i IntKind.i64 c), (AV.sl (Q.rowH l))]), (AV.ag [(AV.s (m).1), (AV.s (m).2), (AV.i IntKind.i64 (m).3), (AV.i IntKind.i64 (m).4)]), (AV.fn 43 ([] : List AV) ([] : List AV))] ([] : List (Prod Nat Blk)) (AV.tup [(AV.ag ([(AV.i IntKind.i64 n)] ++ ([(AV.i IntKind.i64 n1)] ++ ([(AV.i IntKind.i64 n2)] ++ ([(AV.sl xs)] ++ ([] : List AV) : (List AV)) : (List AV)) : (List AV)) : (List AV))), (AV.i IntKind.i64 n3)]) ([] : List (Prod Nat Blk))) ∧
 (((AV.tup [(AV.ag [(AV.i IntKind.i64 n), (AV.i IntKind.i64 n1), (AV.i IntKind.i64 n2), (AV.sl xs)]), (AV.i IntKind.i64 n3)]) = (v : AV)) ∧
 (([] : List (Prod Nat Blk)) = (([] : List (Prod Nat Blk)) : Heap)))))))))
theorem vCharge_eq (a b c : Int) (l : List Held) (m : Mom) (v : AV) : vCharge a b c l m v = (evF Try.prog TQ Try.f23 [] noK [qAV a b c (rowH l), .ag [.s m.p, .s m.t], .i .i64 m.e, .i .i64 m.now] [] [] v []) := by kernel_rfl

def sEx (a b c now : Int) (l le en : List Held) (j : Nat) : St := { t := [(1, .i .i64 now), (2, .ptr 0 0), (4, .ptr 1 0), (5, .sl []), (6, .i .i64 0), (7, .own 2), (8, .own 3), (16, .sl (rowH l)), (17, .i .i64 (rowH l).length), (18, .i .i64 j)], σ := [(0, .cells [.i .i64 a, .i .i64 b, .i .i64 c, .sl (rowH l)]), (1, .cells [.i .i64 0, .i .i64 0, .i .i64 0, .sl []]), (2, .row 41 8 (rowH le)), (3, .row 41 8 (rowH en))], n := 4, m := 39 }
def exC : List (Nat × (List (Nat × (Nat × Nat)) × List Nat)) := [(5, ([(7, (41, 8)), (8, (41, 8))], [1,2,4,5,6,7,8,16,17,18]))]
def vEx (a b c now : Int) (l : List Held) (I : Nat → St → Prop) (v : AV) : Prop :=
 (∃ x : Bool, ((ACalls Try.prog 13 [(AV.ag [(AV.i IntKind.i64 a), (AV.i IntKind.i64 b), (AV.i IntKind.i64 c), (AV.sl (Q.rowH l))])] ([] : List (Prod Nat Blk)) (AV.b x) ([] : List (Prod Nat Blk))) ∧
 (brP (!x) (((AV.tup [(AV.ag [(AV.i IntKind.i64 (0 : Int)), (AV.i IntKind.i64 (0 : Int)), (AV.i IntKind.i64 (0 : Int)), (AV.sl ([] : List (List AV)))]), (AV.sl ([] : List (List AV))), (AV.i IntKind.i64 (1 : Int))]) = (v : AV)) ∧
 (([] : List (Prod Nat Blk)) = (([] : List (Prod Nat Blk)) : Heap))) ((AtL (hd Try.f18 5) (hd Try.f18 5)) ∧
 (I 5 { t := [(1, (AV.i IntKind.i64 now)), (2, (AV.ptr 0 0)), (4, (AV.ptr 1 0)), (5, (AV.sl ([] : List (List AV)))), (6, (AV.i IntKind.i64 (0 : Int))), (7, (AV.own 2)), (8, (AV.own 3)), (16, (AV.sl (Q.rowH l))), (17, (AV.i IntKind.i64 (((List.length (Q.rowH l)) : Nat) : Int))), (18, (AV.i IntKind.i64 (0 : Int)))], σ := [(0, (Blk.cells [(AV.i IntKind.i64 a), (AV.i IntKind.i64 b), (AV.i IntKind.i64 c), (AV.sl (Q.rowH l))])), (1, (Blk.cells [(AV.i IntKind.i64 (0 : Int)), (AV.i IntKind.i64 (0 : Int)), (AV.i IntKind.i64 (0 : Int)), (AV.sl ([] : List (List AV)))])), (2, (Blk.row 41 8 ([] : List (List AV)))), (3, (Blk.row 41 8 ([] : List (List AV))))], n := 4, m := 39 : St})))))
theorem vEx_eq (a b c now : Int) (l : List Held) (I : Nat → St → Prop) (v : AV) : vEx a b c now l I v = (evF Try.prog TQ Try.f18 [] (cutA 0 Try.f18 exC I) [qAV a b c (rowH l), .i .i64 now] [] [] v []) := by kernel_rfl

def vExL (a b c now : Int) (l le en : List Held) (j : Nat) (I : Nat → St → Prop) (v : AV) : Prop :=
 (brP (decide ((((j : Nat) : Int) : Int) < (((List.length (Q.rowH l)) : Nat) : Int))) ((((0 : Int) : Int) ≤ ((j : Nat) : Int)) ∧
 (((((j : Nat) : Int) : Int) < (((List.length (Q.rowH l)) : Nat) : Int)) ∧
 (∃ x : ByteArray, (∃ x1 : ByteArray, (∃ n : Int, (∃ x2 : ByteArray, (∃ n1 : Int, (∃ n2 : Int, (∃ n3 : Int, (∃ n4 : Int, ((((Q.rowH l))[(Int.toNat ((j : Nat) : Int))]? = ((Option.some [(AV.s x), (AV.s x1), (AV.i IntKind.i64 n), (AV.s x2), (AV.i IntKind.i64 n1), (AV.i IntKind.i64 n2), (AV.i IntKind.i64 n3), (AV.i IntKind.i64 n4)]) : (Option (List AV)))) ∧
 (((List.length (([(AV.s x)] ++ ([(AV.s x1)] ++ ([] : List AV) : (List AV)) : (List AV)) ++ ([(AV.i IntKind.i64 n)] ++ ([(AV.s x2)] ++ ([(AV.i IntKind.i64 n1)] ++ ([(AV.i IntKind.i64 n2)] ++ ([(AV.i IntKind.i64 n3)] ++ ([(AV.i IntKind.i64 n4)] ++ ([] : List AV) : (List AV)) : (List AV)) : (List AV)) : (List AV)) : (List AV)) : (List AV)) : (List AV))) = (8 : Nat)) ∧
 (brP (decide ((n2 : Int) ≤ now)) ((((((List.length (Q.rowH en)) + 1 : Nat) * 88 : Nat) : Nat) ≤ 140737488355328) ∧
 (((((List.length (Q.rowH en)) + 1 : Nat) : Nat) ≤ 9223372036854775807) ∧
 ((∀ (y : (List AV)), ((List.Mem y [[(AV.s x), (AV.s x1), (AV.i IntKind.i64 n), (AV.s x2), (AV.i IntKind.i64 n1), (AV.i IntKind.i64 n2), (AV.i IntKind.i64 n3), (AV.i IntKind.i64 n4)]]) → ((List.length y) = (8 : Nat)))) ∧
 ((AtL (hd Try.f18 5) (hd Try.f18 5)) ∧
 (I 5 { t := [(1, (AV.i IntKind.i64 now)), (2, (AV.ptr 0 0)), (4, (AV.ptr 1 0)), (5, (AV.sl ([] : List (List AV)))), (6, (AV.i IntKind.i64 (0 : Int))), (7, (AV.own 2)), (8, (AV.own 3)), (16, (AV.sl (Q.rowH l))), (17, (AV.i IntKind.i64 (((List.length (Q.rowH l)) : Nat) : Int))), (18, (AV.i IntKind.i64 (IntKind.wrap IntKind.i64 (((j : Nat) : Int) + (1 : Int) : Int))))], σ := [(0, (Blk.cells [(AV.i IntKind.i64 a), (AV.i IntKind.i64 b), (AV.i IntKind.i64 c), (AV.sl (Q.rowH l))])), (1, (Blk.cells [(AV.i IntKind.i64 (0 : Int)), (AV.i IntKind.i64 (0 : Int)), (AV.i IntKind.i64 (0 : Int)), (AV.sl ([] : List (List AV)))])), (2, (Blk.row 41 8 (Q.rowH le))), (3, (Blk.row 41 8 ((Q.rowH en) ++ [[(AV.s x), (AV.s x1), (AV.i IntKind.i64 n), (AV.s x2), (AV.i IntKind.i64 n1), (AV.i IntKind.i64 n2), (AV.i IntKind.i64 n3), (AV.i IntKind.i64 n4)]] : (List (List AV)))))], n := 4, m := 39 : St}))))) ((((((List.length (Q.rowH le)) + 1 : Nat) * 88 : Nat) : Nat) ≤ 140737488355328) ∧
 (((((List.length (Q.rowH le)) + 1 : Nat) : Nat) ≤ 9223372036854775807) ∧
 ((∀ (y : (List AV)), ((List.Mem y [[(AV.s x), (AV.s x1), (AV.i IntKind.i64 n), (AV.s x2), (AV.i IntKind.i64 n1), (AV.i IntKind.i64 n2), (AV.i IntKind.i64 n3), (AV.i IntKind.i64 n4)]]) → ((List.length y) = (8 : Nat)))) ∧
 ((AtL (hd Try.f18 5) (hd Try.f18 5)) ∧
 (I 5 { t := [(1, (AV.i IntKind.i64 now)), (2, (AV.ptr 0 0)), (4, (AV.ptr 1 0)), (5, (AV.sl ([] : List (List AV)))), (6, (AV.i IntKind.i64 (0 : Int))), (7, (AV.own 2)), (8, (AV.own 3)), (16, (AV.sl (Q.rowH l))), (17, (AV.i IntKind.i64 (((List.length (Q.rowH l)) : Nat) : Int))), (18, (AV.i IntKind.i64 (IntKind.wrap IntKind.i64 (((j : Nat) : Int) + (1 : Int) : Int))))], σ := [(0, (Blk.cells [(AV.i IntKind.i64 a), (AV.i IntKind.i64 b), (AV.i IntKind.i64 c), (AV.sl (Q.rowH l))])), (1, (Blk.cells [(AV.i IntKind.i64 (0 : Int)), (AV.i IntKind.i64 (0 : Int)), (AV.i IntKind.i64 (0 : Int)), (AV.sl ([] : List (List AV)))])), (2, (Blk.row 41 8 ((Q.rowH le) ++ [[(AV.s x), (AV.s x1), (AV.i IntKind.i64 n), (AV.s x2), (AV.i IntKind.i64 n1), (AV.i IntKind.i64 n2), (AV.i IntKind.i64 n3), (AV.i IntKind.i64 n4)]] : (List (List AV))))), (3, (Blk.row 41 8 (Q.rowH en)))], n := 4, m := 39 : St})))))))))))))))))) (((AV.tup [(AV.ag [(AV.i IntKind.i64 a), (AV.i IntKind.i64 b), (AV.i IntKind.i64 c), (AV.sl (Q.rowH le))]), (AV.sl (Q.rowH en)), (AV.i IntKind.i64 (0 : Int))]) = (v : AV)) ∧
 (([] : List (Prod Nat Blk)) = (([] : List (Prod Nat Blk)) : Heap))))
theorem vExL_eq (a b c now : Int) (l le en : List Held) (j : Nat) (I : Nat → St → Prop) (v : AV) : vExL a b c now l le en j I v = (evL Try.prog TQ Try.f18 [] (cutA 0 Try.f18 exC I) 5 (sEx a b c now l le en j) 0 [] v []) := by kernel_rfl

end Go.AM.Q
set_option maxRecDepth 100000
set_option linter.unusedVariables false
set_option linter.unusedSimpArgs false
namespace Go.AM.Q
open Go.Proofs
/-- An error, with no quarantine. -/
def errQ (e : Int) : AV := .tup [qAV 0 0 0 [], .i .i64 e]
def okQ (a b c : Int) (l : List Held) : AV := .tup [qAV a b c (rowH l), .i .i64 0]
theorem rowH_noU (l : List Held) : noU (rowH l) := by
  intro x hx y hy
  obtain ⟨h, _, rfl⟩ := List.mem_map.1 hx
  simp only [Held.cells, List.mem_cons, List.not_mem_nil, or_false] at hy
  rcases hy with rfl | rfl | rfl | rfl | rfl | rfl | rfl | rfl <;> simp
theorem cells_noU (h : Held) : ∀ c ∈ h.cells, c ≠ .u := by
  intro y hy
  simp only [Held.cells, List.mem_cons, List.not_mem_nil, or_false] at hy
  rcases hy with rfl | rfl | rfl | rfl | rfl | rfl | rfl | rfl <;> simp
theorem wrapU_id {n : Int} (h1 : 0 ≤ n) (h2 : n < 18446744073709551616) : IntKind.u64.wrap n = n := by
  (simp [IntKind.wrap, IntKind.bits, IntKind.signed]; omega)
/-! ### BinarySearchFunc -/
def bsF (p : Nat → Bool) : Nat → Nat → Nat → Nat
  | 0, i, _ => i
  | n + 1, i, j => if i < j then (bif p ((i + j) / 2) then bsF p n ((i + j) / 2 + 1) j else bsF p n i ((i + j) / 2)) else i
def ltAt (l : List Held) (x : Held) (h : Nat) : Bool := match l[h]? with
  | some y => decide (compareI y x < 0)
  | none => false
def bsI (l : List Held) (x : Held) : Nat := bsF (ltAt l x) l.length 0 l.length
def eqAt (l : List Held) (x : Held) (h : Nat) : Bool := match l[h]? with
  | some y => decide (compareI y x = 0)
  | none => false
theorem bsF_le (p : Nat → Bool) : ∀ (n i j : Nat), i ≤ j → i ≤ bsF p n i j ∧ bsF p n i j ≤ j
  | 0, i, j, h => by simp [bsF, h]
  | n + 1, i, j, h => by
    unfold bsF
    split
    · cases p ((i + j) / 2) with
      | true => have := bsF_le p n ((i + j) / 2 + 1) j (by omega); simp only [cond_true]; omega
      | false => have := bsF_le p n i ((i + j) / 2) (by omega); simp only [cond_false]; omega
    · omega
theorem bs_loop (l : List Held) (x : Held) (hl : l.length ≤ 4294967296) : ∀ (n i j : Nat), j - i ≤ n → i ≤ j → j ≤ l.length →
    Runs Try.prog 47 0 (hd Try.f47 3) (iBs l x i j)
      (RetR 0 [] (.tup [.i .i64 (bsF (ltAt l x) n i j), .b (eqAt l x (bsF (ltAt l x) n i j))]) []) := by
  intro n
  have fin : ∀ (i j : Nat), i = j → j ≤ l.length → Runs Try.prog 47 0 (hd Try.f47 3) (iBs l x i j) (RetR 0 [] (.tup [.i .i64 i, .b (eqAt l x i)]) []) := by
    intro i j hij hj
    subst hij
    refine runs_vc (vBsL_eq l x i i (fun _ => False) _) (by kernel_rfl) (fun todo s h => Runs.head h (fun _ h => h.elim)) ?_
    simp only [vBsL, brP_iff]
    refine ⟨fun h => by simp at h, fun _ => ⟨fun h => ?_, fun h => ⟨by trivial, ?_, by trivial⟩⟩⟩
    · have hlt : i < l.length := by simpa [rowH_len] using h
      refine ⟨by omega, by rw [rowH_len]; omega, exH (k := i) hlt rfl ⟨compareI l[i] x, add2_calls l[i] x, by trivial, ?_, by trivial⟩⟩
      have : eqAt l x i = decide (compareI l[i] x = 0) := by simp [eqAt, hlt]
      rw [this]
    · have hlt : ¬ i < l.length := by simpa [rowH_len] using h
      have : eqAt l x i = false := by simp [eqAt, hlt]
      rw [this]
  induction n with
  | zero =>
    intro i j h1 h2 h3
    exact fin i j (by omega) h3
  | succ n ih =>
    intro i j h1 h2 h3
    unfold bsF
    by_cases hij : i < j
    · rw [if_pos hij]
      have hlt : (i + j) / 2 < l.length := by omega
      have hmid : IntKind.i64.wrap (Int.fdiv (IntKind.u64.wrap (IntKind.i64.wrap ((i : Int) + (j : Int)))) 2) = (((i + j) / 2 : Nat) : Int) := by
        rw [wrap_id (n := (i : Int) + j) (by omega) (by omega), wrapU_id (by omega) (by omega), Int.fdiv_eq_ediv_of_nonneg _ (by omega), wrap_id (by omega) (by omega)]
        omega
      have hlt' : ltAt l x ((i + j) / 2) = decide (compareI l[(i + j) / 2] x < 0) := by simp [ltAt, hlt]
      refine runs_vc (vBsL_eq l x i j (fun s => (ltAt l x ((i + j) / 2) = true ∧ s = iBs l x ((i + j) / 2 + 1) j) ∨ (ltAt l x ((i + j) / 2) = false ∧ s = iBs l x i ((i + j) / 2))) _) (by kernel_rfl) (fun todo s h => Runs.head h ?_) ?_
      · rintro s' (⟨e, rfl⟩ | ⟨e, rfl⟩)
        · rw [e]; exact ih _ _ (by omega) (by omega) h3
        · rw [e]; exact ih _ _ (by omega) (by omega) (by omega)
      · simp only [vBsL, brP_iff, hmid]
        refine ⟨fun _ => ⟨by omega, by omega, by rw [rowH_len]; omega, ?_⟩, fun h => by simp at h; omega⟩
        rw [Int.toNat_natCast]
        refine exH hlt rfl ⟨compareI l[(i + j) / 2] x, add2_calls _ x, by trivial, fun h => ⟨by trivial, .inl ⟨by rw [hlt']; exact h, ?_⟩⟩, fun h => ⟨by trivial, .inr ⟨by rw [hlt']; exact h, rfl⟩⟩⟩
        rw [wrap_id (by omega) (by omega)]
        rfl
    · rw [if_neg hij]
      exact fin i j (by omega) h3
theorem bs_calls (l : List Held) (x : Held) (hl : l.length ≤ 4294967296) : ACalls Try.prog 47 [.sl (rowH l), .ag x.cells, .fn 48 [] []] [] (.tup [.i .i64 (bsI l x), .b (eqAt l x (bsI l x))]) [] :=
  acalls_vc (vBs_eq l x (fun s => s = iBs l x 0 l.length) _) (by kernel_rfl) (by kernel_rfl) (fun todo s h => Runs.head h (fun s' e => by
    subst e
    exact bs_loop l x hl l.length 0 l.length (by omega) (by omega) (Nat.le_refl _))) (by
    refine ⟨by trivial, ?_⟩
    simp only [iBs, rowH_len]
    rfl)
/-! ### Add -/
def addE (a b c : Int) (l : List Held) (x : Held) : Int :=
  bif !checkB a b c l || !whoB x then 1 else bif decide (x.f < 0) || decide (x.u ≤ x.f) || decide (1073741824 < x.u) then 3 else bif decide (c < IntKind.i64.wrap (x.u - x.f)) then 44 else
  bif l.any (meetsB x) then 19 else bif decide ((l.length : Int) = b) then 42 else bif decide (loadI a b c l x.by' = a) then 43 else 0
def addL (l : List Held) (x : Held) : List Held := l.take (bsI l x) ++ x :: l.drop (bsI l x)
def addR (a b c : Int) (l : List Held) (x : Held) : AV := bif decide (addE a b c l x = 0) then okQ a b c (addL l x) else errQ (addE a b c l x)
theorem add_calls (a b c : Int) (l : List Held) (p t : ByteArray) (e : Int) (o : ByteArray) (f u : Int) :
    ACalls Try.prog 24 [qAV a b c (rowH l), .ag [.s p, .s t], .i .i64 e, .s o, .i .i64 f, .i .i64 u] [] (addR a b c l ⟨p, t, e, o, f, u, 0, 0⟩) [] :=
  acalls_vc (vAdd_eq a b c l p t e o f u _) (by kernel_rfl) (by kernel_rfl) noK_runs (by
    have err : ∀ n : Int, n ≠ 0 → addE a b c l ⟨p, t, e, o, f, u, 0, 0⟩ = n → errQ n = addR a b c l ⟨p, t, e, o, f, u, 0, 0⟩ := by
      intro n h0 h1
      unfold addR
      rw [h1]
      simp [h0]
    have hi := bsF_le (ltAt l ⟨p, t, e, o, f, u, 0, 0⟩) l.length 0 l.length (Nat.zero_le _)
    have hok : addE a b c l ⟨p, t, e, o, f, u, 0, 0⟩ = 0 → okQ a b c (addL l ⟨p, t, e, o, f, u, 0, 0⟩) = addR a b c l ⟨p, t, e, o, f, u, 0, 0⟩ := by
      intro h1
      unfold addR
      rw [h1]
      simp
    generalize hx : (⟨p, t, e, o, f, u, 0, 0⟩ : Held) = x at *
    have e1 : x.f = f := by rw [← hx]
    have e2 : x.u = u := by rw [← hx]
    have e3 : x.by' = o := by rw [← hx]
    simp only [vAdd, brP_iff]
    refine ⟨checkB a b c l, check_calls a b c l, fun h => ⟨err 1 (by omega) ?_, by trivial⟩, fun h => ?_⟩
    · simp only [addE, h, Bool.true_or, cond_true]
    have hc : checkB a b c l = true := by simpa using h
    have hl := ck_len hc
    refine ⟨whoB x, by subst hx; exact who_calls ⟨p, t, e, o, f, u, 0, 0⟩, fun h2 => ⟨err 1 (by omega) ?_, by trivial⟩, fun h2 => ?_⟩
    · simp only [addE, h2, Bool.or_true, cond_true]
    refine ⟨fun h3 => ⟨err 3 (by omega) ?_, by trivial⟩, fun h3 => ⟨fun h4 => ⟨err 3 (by omega) ?_, by trivial⟩, fun h4 => ⟨fun h5 => ⟨err 3 (by omega) ?_, by trivial⟩, fun h5 => ⟨fun h6 => ⟨err 44 (by omega) ?_, by trivial⟩, fun h6 => ?_⟩⟩⟩⟩
    · simp only [addE, h, h2, e1, e2, h3, Bool.or_self, Bool.true_or, cond_true, cond_false]
    · simp only [addE, h, h2, e1, e2, h3, h4, Bool.or_self, Bool.true_or, Bool.or_true, cond_true, cond_false]
    · simp only [addE, h, h2, e1, e2, h3, h4, h5, Bool.or_self, Bool.true_or, Bool.or_true, cond_true, cond_false]
    · simp only [addE, h, h2, e1, e2, h3, h4, h5, h6, Bool.or_self, Bool.true_or, Bool.or_true, cond_true, cond_false]
    refine ⟨l.any (meetsB x), by subst hx; exact cfA_calls ⟨p, t, e, o, f, u, 0, 0⟩ l (by omega), fun h7 => ⟨err 19 (by omega) ?_, by trivial⟩, fun h7 => ⟨fun h8 => ⟨err 42 (by omega) ?_, by trivial⟩, fun h8 => ?_⟩⟩
    · simp only [addE, h, h2, e1, e2, h3, h4, h5, h6, h7, Bool.or_self, Bool.true_or, Bool.or_true, cond_true, cond_false]
    · rw [rowH_len] at h8
      simp only [addE, h, h2, e1, e2, h3, h4, h5, h6, h7, h8, Bool.or_self, Bool.true_or, Bool.or_true, cond_true, cond_false]
    rw [rowH_len] at h8
    refine ⟨loadI a b c l o, load_calls a b c l o, by trivial, fun h9 => ⟨err 43 (by omega) ?_, by trivial⟩, fun h9 => ?_⟩
    · simp only [addE, h, h2, e1, e2, e3, h3, h4, h5, h6, h7, h8, h9, Bool.or_self, Bool.true_or, Bool.or_true, cond_true, cond_false]
    have h0 : addE a b c l x = 0 := by simp only [addE, h, h2, e1, e2, e3, h3, h4, h5, h6, h7, h8, h9, Bool.or_self, Bool.true_or, Bool.or_true, cond_true, cond_false]
    refine ⟨(bsI l x : Int), eqAt l x (bsI l x), by subst hx; exact bs_calls l ⟨p, t, e, o, f, u, 0, 0⟩ (by omega), clone_calls l (by omega), ?_, by trivial, ?_, by trivial⟩
    · subst hx
      have := insert_calls (xs := rowH l) (y := (⟨p, t, e, o, f, u, 0, 0⟩ : Held).cells) (i := bsI l ⟨p, t, e, o, f, u, 0, 0⟩) (by rw [rowH_len]; exact hi.2) (by rw [rowH_len]; omega) (rowH_all l) (rowH_noU l) rfl (cells_noU _)
      exact this
    · rw [← hok h0]
      subst hx
      simp only [okQ, qAV, addL, rowH, Int.toNat_natCast, List.map_append, List.map_cons, List.map_take, List.map_drop, List.append_assoc, List.singleton_append]
      rfl)

/-! ### Changes of the active entry -/
theorem rowH_set (l : List Held) (j : Nat) (h : Held) : rowH (l.set j h) = (rowH l).set j h.cells := by simp [rowH, List.map_set]
theorem set_self (l : List Held) {j : Nat} (h : j < l.length) : l.set j l[j] = l := List.set_getElem_self h
theorem rel1_calls (l : List Held) (j : Nat) : ACalls Try.prog 41 [.eptr 0 8 j 0] [(0, .row 41 8 (rowH l))] (.tup [.b false, .i .i64 0]) [(0, .row 41 8 (rowH l))] :=
  acalls_vc (vRel1_eq (rowH l) j _ _) (by kernel_rfl) (by kernel_rfl) noK_runs ⟨rfl, rfl⟩
def chgE (h : Held) : Int := bif decide (h.c = 1073741824) then 2 else 0
def chgH (h : Held) : Held := bif decide (h.c = 1073741824) then h else { h with c := IntKind.i64.wrap (h.c + 1) }
theorem chg1_calls (l : List Held) (j : Nat) (h : j < l.length) : ACalls Try.prog 43 [.eptr 0 8 j 0] [(0, .row 41 8 (rowH l))] (.tup [.b true, .i .i64 (chgE l[j])]) [(0, .row 41 8 (rowH (l.set j (chgH l[j]))))] :=
  acalls_vc (vChg1_eq (rowH l) j _ _) (by kernel_rfl) (by kernel_rfl) noK_runs (by
    simp only [vChg1, brP_iff]
    have hg := rowH_get h
    refine ⟨l[j].c, ⟨_, hg, rfl, by trivial⟩, fun h1 => ⟨?_, ?_⟩, fun h1 => ⟨l[j].c, ⟨_, hg, rfl, by trivial⟩, _, hg, Nat.le_refl 8, ?_, ?_⟩⟩
    · simp only [chgE, h1, cond_true]
    · have : chgH l[j] = l[j] := by simp only [chgH, h1, cond_true]
      rw [this, set_self l h]
    · simp only [chgE, h1, cond_false]
    · have : chgH l[j] = { l[j] with c := IntKind.i64.wrap (l[j].c + 1) } := by simp only [chgH, h1, cond_false]
      rw [this, rowH_set]
      rfl)
def renH (h : Held) (u : Int) : Held := { h with u := u, r := 1 }
def renE (c : Int) (l : List Held) (h : Held) (u n : Int) : Int :=
  bif decide (h.r = 1) then 45 else bif decide (u ≤ h.u) || decide (1073741824 < u) then 3 else bif decide (c < IntKind.i64.wrap (u - n)) then 44 else bif l.any (renB h (renH h u)) then 19 else 0
theorem ren1_calls (l l' : List Held) (j : Nat) (h : j < l.length) (u n a b c : Int) (hl : l'.length < 4294967296) : ACalls Try.prog 54 [.eptr 0 8 j 0, .pp [.i .i64 u], .pp [.i .i64 n], .pp [.i .i64 a, .i .i64 b, .i .i64 c, .sl (rowH l')]] [(0, .row 41 8 (rowH l))]
    (.tup [.b true, .i .i64 (renE c l' l[j] u n)]) [(0, .row 41 8 (rowH (bif decide (renE c l' l[j] u n = 0) then l.set j (renH l[j] u) else l)))] :=
  acalls_vc (vRen1_eq (rowH l) j u n a b c l' _ _) (by kernel_rfl) (by kernel_rfl) noK_runs (by
    have hg := rowH_get h
    have err : ∀ k : Int, k ≠ 0 → renE c l' l[j] u n = k → (AV.tup [.b true, .i .i64 k] = .tup [.b true, .i .i64 (renE c l' l[j] u n)]) ∧ ([(0, Blk.row 41 8 (rowH l))] : Heap) = [(0, .row 41 8 (rowH (bif decide (renE c l' l[j] u n = 0) then l.set j (renH l[j] u) else l)))] := by
      intro k h0 h1
      rw [h1]
      simp [h0]
    generalize hx : l[j] = x at *
    simp only [vRen1, brP_iff]
    refine ⟨x.p, x.t, x.e, x.by', x.f, x.u, x.r, x.c, ⟨_, hg, rfl, rfl⟩, fun h1 => err 45 (by omega) ?_, fun h1 => ⟨fun h2 => err 3 (by omega) ?_, fun h2 => ⟨fun h3 => err 3 (by omega) ?_, fun h3 => ⟨fun h4 => err 44 (by omega) ?_, fun h4 => ?_⟩⟩⟩⟩
    · simp only [renE, h1, cond_true]
    · simp only [renE, h1, h2, Bool.true_or, cond_true, cond_false]
    · simp only [renE, h1, h2, h3, Bool.or_true, cond_true, cond_false]
    · simp only [renE, h1, h2, h3, h4, Bool.or_false, cond_true, cond_false]
    refine ⟨l'.any (renB x (renH x u)), cfR_calls x (renH x u) l' hl, fun h5 => err 19 (by omega) ?_, fun h5 => ⟨_, hg, Nat.le_refl 8, ?_, ?_⟩⟩
    · simp only [renE, h1, h2, h3, h4, h5, Bool.or_false, cond_true, cond_false]
    · simp only [renE, h1, h2, h3, h4, h5, Bool.or_false, cond_true, cond_false]
    · have : renE c l' x u n = 0 := by simp only [renE, h1, h2, h3, h4, h5, Bool.or_false, cond_true, cond_false]
      rw [this]
      simp only [decide_true, cond_true, rowH_set]
      rfl)
/-- What a change gives: e says which error there is at an entry; g is the entry's new state; or it goes. -/
def chR (a b c : Int) (l : List Held) (m : Mom) (e : Held → Int) (g : Held → Held) (keep : Bool) : AV :=
  bif checkB a b c l then (match l.find? (heldB m) with
    | none => errQ 18
    | some h => bif decide (e h = 0) then okQ a b c (bif keep then l.set (l.findIdx (heldB m)) (g h) else l.take (l.findIdx (heldB m)) ++ l.drop (l.findIdx (heldB m) + 1)) else errQ (e h)) else errQ 1
theorem changeR_calls (u n a' b' c' : Int) (l' : List Held) (hl' : l'.length < 4294967296) (a b c : Int) (l : List Held) (m : Mom) : ACalls Try.prog 40 [qAV a b c (rowH l), .ag m.cells, (.fn 54 [] [.pp [.i .i64 u], .pp [.i .i64 n], .pp [.i .i64 a', .i .i64 b', .i .i64 c', .sl (rowH l')]])] [] (chR a b c l m (fun h => renE c' l' h u n) (fun h => renH h u) true) [] :=
  acalls_vc (vChangeR_eq u n a' b' c' l' a b c l m _) (by kernel_rfl) (by kernel_rfl) noK_runs (by
    simp only [vChangeR, brP_iff]
    refine ⟨checkB a b c l, check_calls a b c l, fun h => ⟨?_, by trivial⟩, fun h => ?_⟩
    · have : checkB a b c l = false := by simpa using h
      simp only [chR, this, cond_false]
      rfl
    have hc : checkB a b c l = true := by simpa using h
    have hl := ck_len hc
    refine ⟨_, find_calls a b c l m (by omega), fun h2 => ⟨?_, by trivial⟩, fun h2 => ?_⟩
    · rcases idxP_find (heldB m) l 0 (Int.le_refl 0) with ⟨h3, h4⟩ | ⟨x, i, h3, h4, h5⟩
      · simp only [chR, hc, h3, cond_true]
        rfl
      · rw [h4] at h2; simp at h2; omega
    rcases idxP_find (heldB m) l 0 (Int.le_refl 0) with ⟨h3, h4⟩ | ⟨x, i, h3, h4, h5, h6⟩
    · rw [h4] at h2; simp at h2
    obtain ⟨hi, hx⟩ := List.getElem?_eq_some_iff.1 h5
    have h4' : idxP (heldB m) 0 l = (i : Int) := by omega
    rw [h4']
    have hw : IntKind.i64.wrap ((i : Int) + 1) = ((i + 1 : Nat) : Int) := by rw [wrap_id (by omega) (by omega)]; simp
    simp only [Int.toNat_natCast, hw]
    refine ⟨clone_calls l (by omega), by omega, by rw [rowH_len]; omega, true, _, rowH (bif decide (renE c' l' l[i] u n = 0) then l.set i (renH l[i] u) else l), ren1_calls l l' i hi u n a' b' c' hl', fun h7 => ⟨?_, by trivial⟩, fun h7 => ?_⟩
    · simp only [chR, hc, h3, cond_true, ← hx]
      simp only [Bool.not_eq_true', decide_eq_false_iff_not] at h7
      first
      | exact absurd trivial h7
      | simp [h7, errQ, qAV, rowH]
    · have hr : chR a b c l m (fun h => renE c' l' h u n) (fun h => renH h u) true = okQ a b c (bif true then l.set i (((fun h => renH h u)) l[i]) else l.take i ++ l.drop (i + 1)) := by
        simp only [chR, hc, h3, cond_true, ← hx, ← h6]
        simp only [Bool.not_eq_false', decide_eq_true_eq] at h7
        simp [h7]
      rw [hr]
      refine ⟨fun h8 => ?_, fun h8 => ?_⟩
      · first
        | (exfalso; simp at h8; done)
        | exact ⟨delete_calls (xs := rowH l) (i := i) (j := i + 1) (by omega) (by rw [rowH_len]; omega) (by rw [rowH_len]; omega) (rowH_all l) (rowH_noU l), by simp [okQ, qAV, rowH], by trivial⟩
      · first
        | (exfalso; simp at h8; done)
        | (simp only [Bool.not_eq_false', decide_eq_true_eq] at h7
           refine ⟨?_, by trivial⟩
           simp [okQ, qAV, h7]))
theorem changeL_calls  (a b c : Int) (l : List Held) (m : Mom) : ACalls Try.prog 40 [qAV a b c (rowH l), .ag m.cells, (.fn 41 [] [])] [] (chR a b c l m (fun _ => 0) (fun h => h) false) [] :=
  acalls_vc (vChangeL_eq  a b c l m _) (by kernel_rfl) (by kernel_rfl) noK_runs (by
    simp only [vChangeL, brP_iff]
    refine ⟨checkB a b c l, check_calls a b c l, fun h => ⟨?_, by trivial⟩, fun h => ?_⟩
    · have : checkB a b c l = false := by simpa using h
      simp only [chR, this, cond_false]
      rfl
    have hc : checkB a b c l = true := by simpa using h
    have hl := ck_len hc
    refine ⟨_, find_calls a b c l m (by omega), fun h2 => ⟨?_, by trivial⟩, fun h2 => ?_⟩
    · rcases idxP_find (heldB m) l 0 (Int.le_refl 0) with ⟨h3, h4⟩ | ⟨x, i, h3, h4, h5⟩
      · simp only [chR, hc, h3, cond_true]
        rfl
      · rw [h4] at h2; simp at h2; omega
    rcases idxP_find (heldB m) l 0 (Int.le_refl 0) with ⟨h3, h4⟩ | ⟨x, i, h3, h4, h5, h6⟩
    · rw [h4] at h2; simp at h2
    obtain ⟨hi, hx⟩ := List.getElem?_eq_some_iff.1 h5
    have h4' : idxP (heldB m) 0 l = (i : Int) := by omega
    rw [h4']
    have hw : IntKind.i64.wrap ((i : Int) + 1) = ((i + 1 : Nat) : Int) := by rw [wrap_id (by omega) (by omega)]; simp
    simp only [Int.toNat_natCast, hw]
    refine ⟨clone_calls l (by omega), by omega, by rw [rowH_len]; omega, false, _, rowH l, rel1_calls l i, fun h7 => ⟨?_, by trivial⟩, fun h7 => ?_⟩
    · simp only [chR, hc, h3, cond_true, ← hx]
      simp only [Bool.not_eq_true', decide_eq_false_iff_not] at h7
      first
      | exact absurd trivial h7
      | simp [h7, errQ, qAV, rowH]
    · have hr : chR a b c l m (fun _ => 0) (fun h => h) false = okQ a b c (bif false then l.set i (((fun h => h)) l[i]) else l.take i ++ l.drop (i + 1)) := by
        simp only [chR, hc, h3, cond_true, ← hx, ← h6]
        simp only [Bool.not_eq_false', decide_eq_true_eq] at h7
        simp [h7]
      rw [hr]
      refine ⟨fun h8 => ?_, fun h8 => ?_⟩
      · first
        | (exfalso; simp at h8; done)
        | exact ⟨delete_calls (xs := rowH l) (i := i) (j := i + 1) (by omega) (by rw [rowH_len]; omega) (by rw [rowH_len]; omega) (rowH_all l) (rowH_noU l), by simp [okQ, qAV, rowH], by trivial⟩
      · first
        | (exfalso; simp at h8; done)
        | (simp only [Bool.not_eq_false', decide_eq_true_eq] at h7
           refine ⟨?_, by trivial⟩
           simp [okQ, qAV, h7]))
theorem changeC_calls  (a b c : Int) (l : List Held) (m : Mom) : ACalls Try.prog 40 [qAV a b c (rowH l), .ag m.cells, (.fn 43 [] [])] [] (chR a b c l m chgE chgH true) [] :=
  acalls_vc (vChangeC_eq  a b c l m _) (by kernel_rfl) (by kernel_rfl) noK_runs (by
    simp only [vChangeC, brP_iff]
    refine ⟨checkB a b c l, check_calls a b c l, fun h => ⟨?_, by trivial⟩, fun h => ?_⟩
    · have : checkB a b c l = false := by simpa using h
      simp only [chR, this, cond_false]
      rfl
    have hc : checkB a b c l = true := by simpa using h
    have hl := ck_len hc
    refine ⟨_, find_calls a b c l m (by omega), fun h2 => ⟨?_, by trivial⟩, fun h2 => ?_⟩
    · rcases idxP_find (heldB m) l 0 (Int.le_refl 0) with ⟨h3, h4⟩ | ⟨x, i, h3, h4, h5⟩
      · simp only [chR, hc, h3, cond_true]
        rfl
      · rw [h4] at h2; simp at h2; omega
    rcases idxP_find (heldB m) l 0 (Int.le_refl 0) with ⟨h3, h4⟩ | ⟨x, i, h3, h4, h5, h6⟩
    · rw [h4] at h2; simp at h2
    obtain ⟨hi, hx⟩ := List.getElem?_eq_some_iff.1 h5
    have h4' : idxP (heldB m) 0 l = (i : Int) := by omega
    rw [h4']
    have hw : IntKind.i64.wrap ((i : Int) + 1) = ((i + 1 : Nat) : Int) := by rw [wrap_id (by omega) (by omega)]; simp
    simp only [Int.toNat_natCast, hw]
    refine ⟨clone_calls l (by omega), by omega, by rw [rowH_len]; omega, true, _, rowH (l.set i (chgH l[i])), chg1_calls l i hi, fun h7 => ⟨?_, by trivial⟩, fun h7 => ?_⟩
    · simp only [chR, hc, h3, cond_true, ← hx]
      simp only [Bool.not_eq_true', decide_eq_false_iff_not] at h7
      first
      | exact absurd trivial h7
      | simp [h7, errQ, qAV, rowH]
    · have hr : chR a b c l m chgE chgH true = okQ a b c (bif true then l.set i ((chgH) l[i]) else l.take i ++ l.drop (i + 1)) := by
        simp only [chR, hc, h3, cond_true, ← hx, ← h6]
        simp only [Bool.not_eq_false', decide_eq_true_eq] at h7
        simp [h7]
      rw [hr]
      refine ⟨fun h8 => ?_, fun h8 => ?_⟩
      · first
        | (exfalso; simp at h8; done)
        | exact ⟨delete_calls (xs := rowH l) (i := i) (j := i + 1) (by omega) (by rw [rowH_len]; omega) (by rw [rowH_len]; omega) (rowH_all l) (rowH_noU l), by simp [okQ, qAV, rowH], by trivial⟩
      · first
        | (exfalso; simp at h8; done)
        | (simp only [Bool.not_eq_false', decide_eq_true_eq] at h7
           refine ⟨?_, by trivial⟩
           simp [okQ, qAV, h7]))
def renewR (a b c : Int) (l : List Held) (m : Mom) (u : Int) : AV := chR a b c l m (fun h => renE c l h u m.now) (fun h => renH h u) true
def releaseR (a b c : Int) (l : List Held) (m : Mom) : AV := chR a b c l m (fun _ => 0) (fun h => h) false
def chargeR (a b c : Int) (l : List Held) (m : Mom) : AV := chR a b c l m chgE chgH true
theorem chR_form (a b c : Int) (l : List Held) (m : Mom) (e : Held → Int) (g : Held → Held) (k : Bool) : ∃ n n1 n2 xs n3, chR a b c l m e g k = .tup [.ag [.i .i64 n, .i .i64 n1, .i .i64 n2, .sl xs], .i .i64 n3] := by
  unfold chR
  cases checkB a b c l with
  | false => exact ⟨_, _, _, _, _, rfl⟩
  | true =>
    cases l.find? (heldB m) with
    | none => exact ⟨_, _, _, _, _, rfl⟩
    | some h =>
      simp only [cond_true]
      cases decide (e h = 0) with
      | true => exact ⟨_, _, _, _, _, rfl⟩
      | false => exact ⟨_, _, _, _, _, rfl⟩
theorem chR_bad {a b c : Int} {l : List Held} (h : checkB a b c l = false) (m : Mom) (e : Held → Int) (g : Held → Held) (k : Bool) : chR a b c l m e g k = errQ 1 := by
  unfold chR
  rw [h]
  rfl
theorem renew_calls (a b c : Int) (l : List Held) (m : Mom) (u : Int) (hl : l.length < 4294967296) : ACalls Try.prog 31 [qAV a b c (rowH l), .ag [.s m.p, .s m.t], .i .i64 m.e, .i .i64 m.now, .i .i64 u] [] (renewR a b c l m u) [] :=
  acalls_vc (vRenew_eq a b c l m u _) (by kernel_rfl) (by kernel_rfl) noK_runs (by
    obtain ⟨n, n1, n2, xs, n3, h⟩ := chR_form a b c l m (fun h => renE c l h u m.now) (fun h => renH h u) true
    have hc := changeR_calls u m.now a b c l hl a b c l m
    rw [h] at hc
    exact ⟨n, n1, n2, xs, n3, hc, h.symm, rfl⟩)
theorem release_calls (a b c : Int) (l : List Held) (m : Mom) : ACalls Try.prog 19 [qAV a b c (rowH l), .ag [.s m.p, .s m.t], .i .i64 m.e, .i .i64 m.now] [] (releaseR a b c l m) [] :=
  acalls_vc (vRelease_eq a b c l m _) (by kernel_rfl) (by kernel_rfl) noK_runs (by
    obtain ⟨n, n1, n2, xs, n3, h⟩ := chR_form a b c l m (fun _ => 0) (fun h => h) false
    have hc := changeL_calls a b c l m
    rw [h] at hc
    exact ⟨n, n1, n2, xs, n3, hc, h.symm, rfl⟩)
theorem charge_calls (a b c : Int) (l : List Held) (m : Mom) : ACalls Try.prog 23 [qAV a b c (rowH l), .ag [.s m.p, .s m.t], .i .i64 m.e, .i .i64 m.now] [] (chargeR a b c l m) [] :=
  acalls_vc (vCharge_eq a b c l m _) (by kernel_rfl) (by kernel_rfl) noK_runs (by
    obtain ⟨n, n1, n2, xs, n3, h⟩ := chR_form a b c l m chgE chgH true
    have hc := changeC_calls a b c l m
    rw [h] at hc
    exact ⟨n, n1, n2, xs, n3, hc, h.symm, rfl⟩)
/-! ### Expire -/
theorem rowH_snoc (l : List Held) (h : Held) : rowH l ++ [h.cells] = rowH (l ++ [h]) := by simp [rowH]
def expR (a b c : Int) (l : List Held) (now : Int) : AV :=
  bif checkB a b c l then .tup [qAV a b c (rowH (l.filter fun h => !decide (h.u ≤ now))), .sl (rowH (l.filter fun h => decide (h.u ≤ now))), .i .i64 0] else .tup [qAV 0 0 0 [], .sl [], .i .i64 1]
theorem ex_loop (a b c now : Int) (l : List Held) (hl : l.length ≤ 32) : ∀ (k j : Nat), l.length - j = k → j ≤ l.length →
    Runs Try.prog 18 0 (hd Try.f18 5) (sEx a b c now l ((l.take j).filter fun h => !decide (h.u ≤ now)) ((l.take j).filter fun h => decide (h.u ≤ now)) j)
      (RetR 0 [] (.tup [qAV a b c (rowH (l.filter fun h => !decide (h.u ≤ now))), .sl (rowH (l.filter fun h => decide (h.u ≤ now))), .i .i64 0]) []) := by
  intro k
  induction k with
  | zero =>
    intro j hk hj
    have hj' : j = l.length := by omega
    subst hj'
    rw [List.take_length]
    refine runs_vc (vExL_eq a b c now l _ _ _ (fun _ _ => False) _) (by kernel_rfl) (fun todo s h => Runs.cutA h (fun _ _ h => h.elim)) ?_
    simp only [vExL, brP_iff, rowH_len]
    exact ⟨fun h => by simp at h, fun _ => ⟨rfl, by trivial⟩⟩
  | succ k ih =>
    intro j hk hj
    have hlt : j < l.length := by omega
    have htk : l.take (j+1) = l.take j ++ [l[j]] := List.take_succ_eq_append_getElem hlt
    have f1 := List.length_filter_le (fun h : Held => !decide (h.u ≤ now)) (l.take j)
    have f2 := List.length_filter_le (fun h : Held => decide (h.u ≤ now)) (l.take j)
    have hcl : (l.take j).length ≤ 32 := by simp; omega
    refine runs_vc (vExL_eq a b c now l _ _ j (fun id s => id = 5 ∧ s = sEx a b c now l ((l.take (j+1)).filter fun h => !decide (h.u ≤ now)) ((l.take (j+1)).filter fun h => decide (h.u ≤ now)) (j+1)) _) (by kernel_rfl) (fun todo s h => Runs.cutA h ?_) ?_
    · rintro id s' ⟨rfl, rfl⟩
      exact ih (j+1) (by omega) (by omega)
    · have hw : IntKind.i64.wrap ((j : Int) + 1) = ((j + 1 : Nat) : Int) := by rw [wrap_id (by omega) (by omega)]; simp
      simp only [vExL, brP_iff, hw]
      refine ⟨fun _ => ⟨by omega, by rw [rowH_len]; omega, exH hlt rfl ⟨fun h => ⟨by rw [rowH_len]; omega, by rw [rowH_len]; omega, ?_, by trivial, by trivial, ?_⟩, fun h => ⟨by rw [rowH_len]; omega, by rw [rowH_len]; omega, ?_, by trivial, by trivial, ?_⟩⟩⟩, fun h => absurd h (by simp [rowH_len]; omega)⟩
      · intro y hy
        cases hy with
        | head => rfl
        | tail _ h => cases h
      · rw [htk]
        simp only [List.filter_append, List.filter_cons, List.filter_nil, h, Bool.not_true, if_true, Bool.false_eq_true, if_false, List.append_nil]
        unfold sEx
        rw [← rowH_snoc]
        rfl
      · intro y hy
        cases hy with
        | head => rfl
        | tail _ h => cases h
      · rw [htk]
        simp only [List.filter_append, List.filter_cons, List.filter_nil, h, Bool.not_false, if_true, Bool.false_eq_true, if_false, List.append_nil]
        unfold sEx
        rw [← rowH_snoc]
        rfl
theorem expire_calls (a b c : Int) (l : List Held) (now : Int) : ACalls Try.prog 18 [qAV a b c (rowH l), .i .i64 now] [] (expR a b c l now) [] :=
  acalls_vc (vEx_eq a b c now l (fun id s => id = 5 ∧ s = sEx a b c now l [] [] 0 ∧ checkB a b c l = true) _) (by kernel_rfl) (by kernel_rfl) (fun todo s h => Runs.cutA h (fun id s' e => by
    obtain ⟨rfl, rfl, e⟩ := e
    have := ex_loop a b c now l (ck_len e) _ 0 rfl (Nat.zero_le _)
    rw [show expR a b c l now = .tup [qAV a b c (rowH (l.filter fun h => !decide (h.u ≤ now))), .sl (rowH (l.filter fun h => decide (h.u ≤ now))), .i .i64 0] by unfold expR; rw [e]; rfl]
    exact this)) (by
    simp only [vEx, brP_iff]
    refine ⟨checkB a b c l, check_calls a b c l, fun h => ⟨?_, by trivial⟩, fun h => ⟨by trivial, by trivial, rfl, by simpa using h⟩⟩
    have : checkB a b c l = false := by simpa using h
    simp [expR, this, qAV])
end Go.AM.Q
