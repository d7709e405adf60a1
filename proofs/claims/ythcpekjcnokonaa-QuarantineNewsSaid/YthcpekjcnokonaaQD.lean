/- Quarantine: conditions of the library's functions on entries, of closures, of Load and find. -/
import Derived.Test.YthcpekjcnokonaaQC
import Derived.KernelRfl
set_option maxRecDepth 100000
set_option linter.unusedVariables false
namespace Go.AM.Q
open Go.Proofs
--BEGIN
/-- A moment of a test. -/
structure Mom where
  p : ByteArray
  t : ByteArray
  e : Int
  now : Int
def Mom.cells (m : Mom) : List AV := [.s m.p, .s m.t, .i .i64 m.e, .i .i64 m.now]
/-- A call whose outcome is known by its arguments. -/
def detS (frz : Nat → Bool) (f : List AV → Heap → Option (AV × Heap)) : CSpec :=
  { frz := frz, ex := fun a σ K => match f a σ with
      | some p => K p.1 p.2
      | none => False
    ok := fun a σ K h => by
      cases hf : f a σ with
      | none => rw [hf] at h; exact h.elim
      | some p => rw [hf] at h; exact ⟨p.1, p.2, h, fun K' hk => hk⟩ }
def cloneS (e sz : Nat) : CSpec := detS (fun _ => true) fun a σ => match a with
  | [.sl xs] => some (.own 0, [(0, .row e sz xs)])
  | _ => none
def insertS : CSpec := detS (fun _ => false) fun a σ => match a, σ with
  | [.own 0, .i _ i, .own 1], [(0, .row e sz xs), (1, .row _ _ ys)] => some (.own 2, [(2, .row e sz (xs.take i.toNat ++ ys ++ xs.drop i.toNat))])
  | _, _ => none
def deleteS : CSpec := detS (fun _ => false) fun a σ => match a, σ with
  | [.own 0, .i _ i, .i _ j], [(0, .row e sz xs)] => some (.own 1, [(1, .row e sz (xs.take i.toNat ++ xs.drop j.toNat))])
  | _, _ => none
/-- A closure that is handed a place of a row, and says two things. -/
def placeS (k : IntKind) : CSpec :=
  { frz := fun n => !Nat.beq n 0, ex := fun a σ K => match a, σ with
      | .eptr 0 _ _ _ :: _, [(0, .row e sz xs)] => ∃ b n xs', K (.tup [.b b, .i k n]) [(0, .row e sz xs')]
      | _, _ => False
    ok := fun a σ K h => by
      split at h
      · obtain ⟨b, n, xs', h⟩ := h
        exact ⟨_, _, h, fun K' hk => ⟨b, n, xs', hk⟩⟩
      · exact h.elim }
def TQ : Nat → Option CSpec := fun n =>
  bif Nat.beq n 50 then some (cloneS 41 8) else
  bif Nat.beq n 49 then some insertS else
  bif Nat.beq n 68 then some deleteS else
  bif Nat.beq n 54 then some (placeS .i64) else
  bif Nat.beq n 41 then some (placeS .i64) else
  bif Nat.beq n 43 then some (placeS .i64) else none
def vHeldM (m : Mom) (h : Held) (v : AV) : Prop :=
 (brP (Bool.and (strEq (h).1 (m).1) (Bool.and (strEq (h).2 (m).2) Bool.true)) (brP (decide ((h).3 = ((m).3 : Int))) (brP (decide (((h).5 : Int) ≤ (m).4)) (((AV.b (decide (((m).4 : Int) < (h).6))) = (v : AV)) ∧
 (([] : List (Prod Nat Blk)) = (([] : List (Prod Nat Blk)) : Heap))) (((AV.b Bool.false) = (v : AV)) ∧
 (([] : List (Prod Nat Blk)) = (([] : List (Prod Nat Blk)) : Heap)))) (((AV.b Bool.false) = (v : AV)) ∧
 (([] : List (Prod Nat Blk)) = (([] : List (Prod Nat Blk)) : Heap)))) (((AV.b Bool.false) = (v : AV)) ∧
 (([] : List (Prod Nat Blk)) = (([] : List (Prod Nat Blk)) : Heap))))
theorem vHeldM_eq (m : Mom) (h : Held) (v : AV) : vHeldM m h v = (evF Try.prog T0 Try.f70 [] noK [.ag m.cells, .ag h.cells] [] [] v []) := by kernel_rfl

def vAdd1 (x h : Held) (v : AV) : Prop :=
 (∃ x1 : Bool, ((ACalls Try.prog 30 [(AV.ag [(AV.s (x).1), (AV.s (x).2), (AV.i IntKind.i64 (x).3), (AV.s (x).4), (AV.i IntKind.i64 (x).5), (AV.i IntKind.i64 (x).6), (AV.i IntKind.i64 (x).7), (AV.i IntKind.i64 (x).8)]), (AV.ag [(AV.s (h).1), (AV.s (h).2), (AV.i IntKind.i64 (h).3), (AV.s (h).4), (AV.i IntKind.i64 (h).5), (AV.i IntKind.i64 (h).6), (AV.i IntKind.i64 (h).7), (AV.i IntKind.i64 (h).8)])] ([] : List (Prod Nat Blk)) (AV.b x1) ([] : List (Prod Nat Blk))) ∧
 (((AV.b x1) = (v : AV)) ∧
 (([] : List (Prod Nat Blk)) = (([] : List (Prod Nat Blk)) : Heap)))))
theorem vAdd1_eq (x h : Held) (v : AV) : vAdd1 x h v = (evF Try.prog T0 Try.f46 [] noK [.ag h.cells, .pp x.cells] [] [] v []) := by kernel_rfl

def vAdd2 (x h : Held) (v : AV) : Prop :=
 (∃ n : Int, ((ACalls Try.prog 29 [(AV.ag [(AV.s (x).1), (AV.s (x).2), (AV.i IntKind.i64 (x).3), (AV.s (x).4), (AV.i IntKind.i64 (x).5), (AV.i IntKind.i64 (x).6), (AV.i IntKind.i64 (x).7), (AV.i IntKind.i64 (x).8)]), (AV.ag [(AV.s (h).1), (AV.s (h).2), (AV.i IntKind.i64 (h).3), (AV.s (h).4), (AV.i IntKind.i64 (h).5), (AV.i IntKind.i64 (h).6), (AV.i IntKind.i64 (h).7), (AV.i IntKind.i64 (h).8)])] ([] : List (Prod Nat Blk)) (AV.i IntKind.i64 n) ([] : List (Prod Nat Blk))) ∧
 (((AV.i IntKind.i64 n) = (v : AV)) ∧
 (([] : List (Prod Nat Blk)) = (([] : List (Prod Nat Blk)) : Heap)))))
theorem vAdd2_eq (x h : Held) (v : AV) : vAdd2 x h v = (evF Try.prog T0 Try.f48 [] noK [.ag x.cells, .ag h.cells] [] [] v []) := by kernel_rfl

def vRen11 (h was longer : Held) (v : AV) : Prop :=
 (brP (!(Bool.and (Bool.and (strEq (h).1 (was).1) (Bool.and (strEq (h).2 (was).2) Bool.true)) (Bool.and (decide ((h).3 = ((was).3 : Int))) (Bool.and (strEq (h).4 (was).4) (Bool.and (decide ((h).5 = ((was).5 : Int))) (Bool.and (decide ((h).6 = ((was).6 : Int))) (Bool.and (decide ((h).7 = ((was).7 : Int))) (Bool.and (decide ((h).8 = ((was).8 : Int))) Bool.true)))))))) (∃ x : Bool, ((ACalls Try.prog 30 [(AV.ag [(AV.s (longer).1), (AV.s (longer).2), (AV.i IntKind.i64 (longer).3), (AV.s (longer).4), (AV.i IntKind.i64 (longer).5), (AV.i IntKind.i64 (longer).6), (AV.i IntKind.i64 (longer).7), (AV.i IntKind.i64 (longer).8)]), (AV.ag [(AV.s (h).1), (AV.s (h).2), (AV.i IntKind.i64 (h).3), (AV.s (h).4), (AV.i IntKind.i64 (h).5), (AV.i IntKind.i64 (h).6), (AV.i IntKind.i64 (h).7), (AV.i IntKind.i64 (h).8)])] ([] : List (Prod Nat Blk)) (AV.b x) ([] : List (Prod Nat Blk))) ∧
 (((AV.b x) = (v : AV)) ∧
 (([] : List (Prod Nat Blk)) = (([] : List (Prod Nat Blk)) : Heap))))) (((AV.b Bool.false) = (v : AV)) ∧
 (([] : List (Prod Nat Blk)) = (([] : List (Prod Nat Blk)) : Heap))))
theorem vRen11_eq (h was longer : Held) (v : AV) : vRen11 h was longer v = (evF Try.prog T0 Try.f55 [] noK [.ag h.cells, .pp was.cells, .pp longer.cells] [] [] v []) := by kernel_rfl

def iIx (l : List Held) (g : AV) (j : Nat) : St := { t := [(0, .sl (rowH l)), (1, g), (4, .i .i64 0), (7, .i .i64 (rowH l).length), (8, .i .i64 j)], σ := [], n := 0, m := 19 }
def vIxH (m : Mom) (l : List Held) (I : St → Prop) (v : AV) : Prop :=
 ((AtL (hd Try.f69 (2 : Nat)) (hd Try.f69 (2 : Nat))) ∧
 (I { t := [(0, (AV.sl (Q.rowH l))), (1, (AV.fn 70 [(AV.ag [(AV.s (m).1), (AV.s (m).2), (AV.i IntKind.i64 (m).3), (AV.i IntKind.i64 (m).4)])] ([] : List AV))), (4, (AV.i IntKind.i64 (0 : Int))), (7, (AV.i IntKind.i64 (((List.length (Q.rowH l)) : Nat) : Int))), (8, (AV.i IntKind.i64 (0 : Int)))], σ := ([] : List (Prod Nat Blk)), n := 0, m := 19 : St}))
theorem vIxH_eq (m : Mom) (l : List Held) (I : St → Prop) (v : AV) : vIxH m l I v = (evF Try.prog T0 Try.f69 [] (atK 0 (hd Try.f69 2) [] [0,1,4,7,8] I) [.sl (rowH l), (.fn 70 [.ag m.cells] [])] [] [] v []) := by kernel_rfl

def vIxLH (m : Mom) (l : List Held) (j : Nat) (I : St → Prop) (v : AV) : Prop :=
 (brP (decide ((((j : Nat) : Int) : Int) < (((List.length (Q.rowH l)) : Nat) : Int))) ((((0 : Int) : Int) ≤ ((j : Nat) : Int)) ∧
 (((((j : Nat) : Int) : Int) < (((List.length (Q.rowH l)) : Nat) : Int)) ∧
 (∃ x : ByteArray, (∃ x1 : ByteArray, (∃ n : Int, (∃ x2 : ByteArray, (∃ n1 : Int, (∃ n2 : Int, (∃ n3 : Int, (∃ n4 : Int, ((((Q.rowH l))[(Int.toNat ((j : Nat) : Int))]? = ((Option.some [(AV.s x), (AV.s x1), (AV.i IntKind.i64 n), (AV.s x2), (AV.i IntKind.i64 n1), (AV.i IntKind.i64 n2), (AV.i IntKind.i64 n3), (AV.i IntKind.i64 n4)]) : (Option (List AV)))) ∧
 (((List.length (([(AV.s x)] ++ ([(AV.s x1)] ++ ([] : List AV) : (List AV)) : (List AV)) ++ ([(AV.i IntKind.i64 n)] ++ ([(AV.s x2)] ++ ([(AV.i IntKind.i64 n1)] ++ ([(AV.i IntKind.i64 n2)] ++ ([(AV.i IntKind.i64 n3)] ++ ([(AV.i IntKind.i64 n4)] ++ ([] : List AV) : (List AV)) : (List AV)) : (List AV)) : (List AV)) : (List AV)) : (List AV)) : (List AV))) = (8 : Nat)) ∧
 (∃ x3 : Bool, ((ACalls Try.prog 70 [(AV.ag [(AV.s (m).1), (AV.s (m).2), (AV.i IntKind.i64 (m).3), (AV.i IntKind.i64 (m).4)]), (AV.ag [(AV.s x), (AV.s x1), (AV.i IntKind.i64 n), (AV.s x2), (AV.i IntKind.i64 n1), (AV.i IntKind.i64 n2), (AV.i IntKind.i64 n3), (AV.i IntKind.i64 n4)])] ([] : List (Prod Nat Blk)) (AV.b x3) ([] : List (Prod Nat Blk))) ∧
 (brP x3 (((AV.i IntKind.i64 ((j : Nat) : Int)) = (v : AV)) ∧
 (([] : List (Prod Nat Blk)) = (([] : List (Prod Nat Blk)) : Heap))) ((AtL (hd Try.f69 (2 : Nat)) (hd Try.f69 (2 : Nat))) ∧
 (I { t := [(0, (AV.sl (Q.rowH l))), (1, (AV.fn 70 [(AV.ag [(AV.s (m).1), (AV.s (m).2), (AV.i IntKind.i64 (m).3), (AV.i IntKind.i64 (m).4)])] ([] : List AV))), (4, (AV.i IntKind.i64 (0 : Int))), (7, (AV.i IntKind.i64 (((List.length (Q.rowH l)) : Nat) : Int))), (8, (AV.i IntKind.i64 (IntKind.wrap IntKind.i64 (((j : Nat) : Int) + (1 : Int) : Int))))], σ := ([] : List (Prod Nat Blk)), n := 0, m := 19 : St}))))))))))))))))) (((AV.i IntKind.i64 (-1 : Int)) = (v : AV)) ∧
 (([] : List (Prod Nat Blk)) = (([] : List (Prod Nat Blk)) : Heap))))
theorem vIxLH_eq (m : Mom) (l : List Held) (j : Nat) (I : St → Prop) (v : AV) : vIxLH m l j I v = (evL Try.prog T0 Try.f69 [] (atK 0 (hd Try.f69 2) [] [0,1,4,7,8] I) 2 (iIx l (.fn 70 [.ag m.cells] []) j) 0 [] v []) := by kernel_rfl

def vCfH (m : Mom) (l : List Held) (v : AV) : Prop :=
 (∃ n : Int, ((ACalls Try.prog 69 [(AV.sl (Q.rowH l)), (AV.fn 70 [(AV.ag [(AV.s (m).1), (AV.s (m).2), (AV.i IntKind.i64 (m).3), (AV.i IntKind.i64 (m).4)])] ([] : List AV))] ([] : List (Prod Nat Blk)) (AV.i IntKind.i64 n) ([] : List (Prod Nat Blk))) ∧
 (((AV.b (decide (((0 : Int) : Int) ≤ n))) = (v : AV)) ∧
 (([] : List (Prod Nat Blk)) = (([] : List (Prod Nat Blk)) : Heap)))))
theorem vCfH_eq (m : Mom) (l : List Held) (v : AV) : vCfH m l v = (evF Try.prog T0 Try.f45 [] noK [.sl (rowH l), (.fn 70 [.ag m.cells] [])] [] [] v []) := by kernel_rfl

def vIxA (x : Held) (l : List Held) (I : St → Prop) (v : AV) : Prop :=
 ((AtL (hd Try.f69 (2 : Nat)) (hd Try.f69 (2 : Nat))) ∧
 (I { t := [(0, (AV.sl (Q.rowH l))), (1, (AV.fn 46 ([] : List AV) [(AV.pp [(AV.s (x).1), (AV.s (x).2), (AV.i IntKind.i64 (x).3), (AV.s (x).4), (AV.i IntKind.i64 (x).5), (AV.i IntKind.i64 (x).6), (AV.i IntKind.i64 (x).7), (AV.i IntKind.i64 (x).8)])])), (4, (AV.i IntKind.i64 (0 : Int))), (7, (AV.i IntKind.i64 (((List.length (Q.rowH l)) : Nat) : Int))), (8, (AV.i IntKind.i64 (0 : Int)))], σ := ([] : List (Prod Nat Blk)), n := 0, m := 19 : St}))
theorem vIxA_eq (x : Held) (l : List Held) (I : St → Prop) (v : AV) : vIxA x l I v = (evF Try.prog T0 Try.f69 [] (atK 0 (hd Try.f69 2) [] [0,1,4,7,8] I) [.sl (rowH l), (.fn 46 [] [.pp x.cells])] [] [] v []) := by kernel_rfl

def vIxLA (x : Held) (l : List Held) (j : Nat) (I : St → Prop) (v : AV) : Prop :=
 (brP (decide ((((j : Nat) : Int) : Int) < (((List.length (Q.rowH l)) : Nat) : Int))) ((((0 : Int) : Int) ≤ ((j : Nat) : Int)) ∧
 (((((j : Nat) : Int) : Int) < (((List.length (Q.rowH l)) : Nat) : Int)) ∧
 (∃ x1 : ByteArray, (∃ x2 : ByteArray, (∃ n : Int, (∃ x3 : ByteArray, (∃ n1 : Int, (∃ n2 : Int, (∃ n3 : Int, (∃ n4 : Int, ((((Q.rowH l))[(Int.toNat ((j : Nat) : Int))]? = ((Option.some [(AV.s x1), (AV.s x2), (AV.i IntKind.i64 n), (AV.s x3), (AV.i IntKind.i64 n1), (AV.i IntKind.i64 n2), (AV.i IntKind.i64 n3), (AV.i IntKind.i64 n4)]) : (Option (List AV)))) ∧
 (((List.length (([(AV.s x1)] ++ ([(AV.s x2)] ++ ([] : List AV) : (List AV)) : (List AV)) ++ ([(AV.i IntKind.i64 n)] ++ ([(AV.s x3)] ++ ([(AV.i IntKind.i64 n1)] ++ ([(AV.i IntKind.i64 n2)] ++ ([(AV.i IntKind.i64 n3)] ++ ([(AV.i IntKind.i64 n4)] ++ ([] : List AV) : (List AV)) : (List AV)) : (List AV)) : (List AV)) : (List AV)) : (List AV)) : (List AV))) = (8 : Nat)) ∧
 (∃ x4 : Bool, ((ACalls Try.prog 46 [(AV.ag [(AV.s x1), (AV.s x2), (AV.i IntKind.i64 n), (AV.s x3), (AV.i IntKind.i64 n1), (AV.i IntKind.i64 n2), (AV.i IntKind.i64 n3), (AV.i IntKind.i64 n4)]), (AV.pp [(AV.s (x).1), (AV.s (x).2), (AV.i IntKind.i64 (x).3), (AV.s (x).4), (AV.i IntKind.i64 (x).5), (AV.i IntKind.i64 (x).6), (AV.i IntKind.i64 (x).7), (AV.i IntKind.i64 (x).8)])] ([] : List (Prod Nat Blk)) (AV.b x4) ([] : List (Prod Nat Blk))) ∧
 (brP x4 (((AV.i IntKind.i64 ((j : Nat) : Int)) = (v : AV)) ∧
 (([] : List (Prod Nat Blk)) = (([] : List (Prod Nat Blk)) : Heap))) ((AtL (hd Try.f69 (2 : Nat)) (hd Try.f69 (2 : Nat))) ∧
 (I { t := [(0, (AV.sl (Q.rowH l))), (1, (AV.fn 46 ([] : List AV) [(AV.pp [(AV.s (x).1), (AV.s (x).2), (AV.i IntKind.i64 (x).3), (AV.s (x).4), (AV.i IntKind.i64 (x).5), (AV.i IntKind.i64 (x).6), (AV.i IntKind.i64 (x).7), (AV.i IntKind.i64 (x).8)])])), (4, (AV.i IntKind.i64 (0 : Int))), (7, (AV.i IntKind.i64 (((List.length (Q.rowH l)) : Nat) : Int))), (8, (AV.i IntKind.i64 (IntKind.wrap IntKind.i64 (((j : Nat) : Int) + (1 : Int) : Int))))], σ := ([] : List (Prod Nat Blk)), n := 0, m := 19 : St}))))))))))))))))) (((AV.i IntKind.i64 (-1 : Int)) = (v : AV)) ∧
 (([] : List (Prod Nat Blk)) = (([] : List (Prod Nat Blk)) : Heap))))
theorem vIxLA_eq (x : Held) (l : List Held) (j : Nat) (I : St → Prop) (v : AV) : vIxLA x l j I v = (evL Try.prog T0 Try.f69 [] (atK 0 (hd Try.f69 2) [] [0,1,4,7,8] I) 2 (iIx l (.fn 46 [] [.pp x.cells]) j) 0 [] v []) := by kernel_rfl

def vCfA (x : Held) (l : List Held) (v : AV) : Prop :=
 (∃ n : Int, ((ACalls Try.prog 69 [(AV.sl (Q.rowH l)), (AV.fn 46 ([] : List AV) [(AV.pp [(AV.s (x).1), (AV.s (x).2), (AV.i IntKind.i64 (x).3), (AV.s (x).4), (AV.i IntKind.i64 (x).5), (AV.i IntKind.i64 (x).6), (AV.i IntKind.i64 (x).7), (AV.i IntKind.i64 (x).8)])])] ([] : List (Prod Nat Blk)) (AV.i IntKind.i64 n) ([] : List (Prod Nat Blk))) ∧
 (((AV.b (decide (((0 : Int) : Int) ≤ n))) = (v : AV)) ∧
 (([] : List (Prod Nat Blk)) = (([] : List (Prod Nat Blk)) : Heap)))))
theorem vCfA_eq (x : Held) (l : List Held) (v : AV) : vCfA x l v = (evF Try.prog T0 Try.f45 [] noK [.sl (rowH l), (.fn 46 [] [.pp x.cells])] [] [] v []) := by kernel_rfl

def vIxR (x y : Held) (l : List Held) (I : St → Prop) (v : AV) : Prop :=
 ((AtL (hd Try.f69 (2 : Nat)) (hd Try.f69 (2 : Nat))) ∧
 (I { t := [(0, (AV.sl (Q.rowH l))), (1, (AV.fn 55 ([] : List AV) [(AV.pp [(AV.s (x).1), (AV.s (x).2), (AV.i IntKind.i64 (x).3), (AV.s (x).4), (AV.i IntKind.i64 (x).5), (AV.i IntKind.i64 (x).6), (AV.i IntKind.i64 (x).7), (AV.i IntKind.i64 (x).8)]), (AV.pp [(AV.s (y).1), (AV.s (y).2), (AV.i IntKind.i64 (y).3), (AV.s (y).4), (AV.i IntKind.i64 (y).5), (AV.i IntKind.i64 (y).6), (AV.i IntKind.i64 (y).7), (AV.i IntKind.i64 (y).8)])])), (4, (AV.i IntKind.i64 (0 : Int))), (7, (AV.i IntKind.i64 (((List.length (Q.rowH l)) : Nat) : Int))), (8, (AV.i IntKind.i64 (0 : Int)))], σ := ([] : List (Prod Nat Blk)), n := 0, m := 19 : St}))
theorem vIxR_eq (x y : Held) (l : List Held) (I : St → Prop) (v : AV) : vIxR x y l I v = (evF Try.prog T0 Try.f69 [] (atK 0 (hd Try.f69 2) [] [0,1,4,7,8] I) [.sl (rowH l), (.fn 55 [] [.pp x.cells, .pp y.cells])] [] [] v []) := by kernel_rfl

def vIxLR (x y : Held) (l : List Held) (j : Nat) (I : St → Prop) (v : AV) : Prop :=
 (brP (decide ((((j : Nat) : Int) : Int) < (((List.length (Q.rowH l)) : Nat) : Int))) ((((0 : Int) : Int) ≤ ((j : Nat) : Int)) ∧
 (((((j : Nat) : Int) : Int) < (((List.length (Q.rowH l)) : Nat) : Int)) ∧
 (∃ x1 : ByteArray, (∃ x2 : ByteArray, (∃ n : Int, (∃ x3 : ByteArray, (∃ n1 : Int, (∃ n2 : Int, (∃ n3 : Int, (∃ n4 : Int, ((((Q.rowH l))[(Int.toNat ((j : Nat) : Int))]? = ((Option.some [(AV.s x1), (AV.s x2), (AV.i IntKind.i64 n), (AV.s x3), (AV.i IntKind.i64 n1), (AV.i IntKind.i64 n2), (AV.i IntKind.i64 n3), (AV.i IntKind.i64 n4)]) : (Option (List AV)))) ∧
 (((List.length (([(AV.s x1)] ++ ([(AV.s x2)] ++ ([] : List AV) : (List AV)) : (List AV)) ++ ([(AV.i IntKind.i64 n)] ++ ([(AV.s x3)] ++ ([(AV.i IntKind.i64 n1)] ++ ([(AV.i IntKind.i64 n2)] ++ ([(AV.i IntKind.i64 n3)] ++ ([(AV.i IntKind.i64 n4)] ++ ([] : List AV) : (List AV)) : (List AV)) : (List AV)) : (List AV)) : (List AV)) : (List AV)) : (List AV))) = (8 : Nat)) ∧
 (∃ x4 : Bool, ((ACalls Try.prog 55 [(AV.ag [(AV.s x1), (AV.s x2), (AV.i IntKind.i64 n), (AV.s x3), (AV.i IntKind.i64 n1), (AV.i IntKind.i64 n2), (AV.i IntKind.i64 n3), (AV.i IntKind.i64 n4)]), (AV.pp [(AV.s (x).1), (AV.s (x).2), (AV.i IntKind.i64 (x).3), (AV.s (x).4), (AV.i IntKind.i64 (x).5), (AV.i IntKind.i64 (x).6), (AV.i IntKind.i64 (x).7), (AV.i IntKind.i64 (x).8)]), (AV.pp [(AV.s (y).1), (AV.s (y).2), (AV.i IntKind.i64 (y).3), (AV.s (y).4), (AV.i IntKind.i64 (y).5), (AV.i IntKind.i64 (y).6), (AV.i IntKind.i64 (y).7), (AV.i IntKind.i64 (y).8)])] ([] : List (Prod Nat Blk)) (AV.b x4) ([] : List (Prod Nat Blk))) ∧
 (brP x4 (((AV.i IntKind.i64 ((j : Nat) : Int)) = (v : AV)) ∧
 (([] : List (Prod Nat Blk)) = (([] : List (Prod Nat Blk)) : Heap))) ((AtL (hd Try.f69 (2 : Nat)) (hd Try.f69 (2 : Nat))) ∧
 (I { t := [(0, (AV.sl (Q.rowH l))), (1, (AV.fn 55 ([] : List AV) [(AV.pp [(AV.s (x).1), (AV.s (x).2), (AV.i IntKind.i64 (x).3), (AV.s (x).4), (AV.i IntKind.i64 (x).5), (AV.i IntKind.i64 (x).6), (AV.i IntKind.i64 (x).7), (AV.i IntKind.i64 (x).8)]), (AV.pp [(AV.s (y).1), (AV.s (y).2), (AV.i IntKind.i64 (y).3), (AV.s (y).4), (AV.i IntKind.i64 (y).5), (AV.i IntKind.i64 (y).6), (AV.i IntKind.i64 (y).7), (AV.i IntKind.i64 (y).8)])])), (4, (AV.i IntKind.i64 (0 : Int))), (7, (AV.i IntKind.i64 (((List.length (Q.rowH l)) : Nat) : Int))), (8, (AV.i IntKind.i64 (IntKind.wrap IntKind.i64 (((j : Nat) : Int) + (1 : Int) : Int))))], σ := ([] : List (Prod Nat Blk)), n := 0, m := 19 : St}))))))))))))))))) (((AV.i IntKind.i64 (-1 : Int)) = (v : AV)) ∧
 (([] : List (Prod Nat Blk)) = (([] : List (Prod Nat Blk)) : Heap))))
theorem vIxLR_eq (x y : Held) (l : List Held) (j : Nat) (I : St → Prop) (v : AV) : vIxLR x y l j I v = (evL Try.prog T0 Try.f69 [] (atK 0 (hd Try.f69 2) [] [0,1,4,7,8] I) 2 (iIx l (.fn 55 [] [.pp x.cells, .pp y.cells]) j) 0 [] v []) := by kernel_rfl

def vCfR (x y : Held) (l : List Held) (v : AV) : Prop :=
 (∃ n : Int, ((ACalls Try.prog 69 [(AV.sl (Q.rowH l)), (AV.fn 55 ([] : List AV) [(AV.pp [(AV.s (x).1), (AV.s (x).2), (AV.i IntKind.i64 (x).3), (AV.s (x).4), (AV.i IntKind.i64 (x).5), (AV.i IntKind.i64 (x).6), (AV.i IntKind.i64 (x).7), (AV.i IntKind.i64 (x).8)]), (AV.pp [(AV.s (y).1), (AV.s (y).2), (AV.i IntKind.i64 (y).3), (AV.s (y).4), (AV.i IntKind.i64 (y).5), (AV.i IntKind.i64 (y).6), (AV.i IntKind.i64 (y).7), (AV.i IntKind.i64 (y).8)])])] ([] : List (Prod Nat Blk)) (AV.i IntKind.i64 n) ([] : List (Prod Nat Blk))) ∧
 (((AV.b (decide (((0 : Int) : Int) ≤ n))) = (v : AV)) ∧
 (([] : List (Prod Nat Blk)) = (([] : List (Prod Nat Blk)) : Heap)))))
theorem vCfR_eq (x y : Held) (l : List Held) (v : AV) : vCfR x y l v = (evF Try.prog T0 Try.f45 [] noK [.sl (rowH l), (.fn 55 [] [.pp x.cells, .pp y.cells])] [] [] v []) := by kernel_rfl

def vFind (a b c : Int) (l : List Held) (m : Mom) (v : AV) : Prop :=
 (∃ n : Int, ((ACalls Try.prog 69 [(AV.sl (Q.rowH l)), (AV.fn 70 [(AV.ag [(AV.s (m).1), (AV.s (m).2), (AV.i IntKind.i64 (m).3), (AV.i IntKind.i64 (m).4)])] ([] : List AV))] ([] : List (Prod Nat Blk)) (AV.i IntKind.i64 n) ([] : List (Prod Nat Blk))) ∧
 (((AV.i IntKind.i64 n) = (v : AV)) ∧
 (([] : List (Prod Nat Blk)) = (([] : List (Prod Nat Blk)) : Heap)))))
theorem vFind_eq (a b c : Int) (l : List Held) (m : Mom) (v : AV) : vFind a b c l m v = (evF Try.prog T0 Try.f42 [] noK [qAV a b c (rowH l), .ag [.s m.p, .s m.t], .i .i64 m.e, .i .i64 m.now] [] [] v []) := by kernel_rfl

def iLd (a b c : Int) (l : List Held) (o : ByteArray) (j : Nat) (n : Int) : St := { t := [(1, .s o), (4, .i .i64 0), (5, .i .i64 n), (12, .sl (rowH l)), (13, .i .i64 (rowH l).length), (14, .i .i64 j)], σ := [], n := 0, m := 26 }
def vLoad (a b c : Int) (l : List Held) (o : ByteArray) (I : St → Prop) (v : AV) : Prop :=
 (∃ x : Bool, ((ACalls Try.prog 13 [(AV.ag [(AV.i IntKind.i64 a), (AV.i IntKind.i64 b), (AV.i IntKind.i64 c), (AV.sl (Q.rowH l))])] ([] : List (Prod Nat Blk)) (AV.b x) ([] : List (Prod Nat Blk))) ∧
 (brP (!x) (((AV.i IntKind.i64 (0 : Int)) = (v : AV)) ∧
 (([] : List (Prod Nat Blk)) = (([] : List (Prod Nat Blk)) : Heap))) ((AtL (hd Try.f20 (5 : Nat)) (hd Try.f20 (5 : Nat))) ∧
 (I { t := [(1, (AV.s o)), (4, (AV.i IntKind.i64 (0 : Int))), (5, (AV.i IntKind.i64 (0 : Int))), (12, (AV.sl (Q.rowH l))), (13, (AV.i IntKind.i64 (((List.length (Q.rowH l)) : Nat) : Int))), (14, (AV.i IntKind.i64 (0 : Int)))], σ := ([] : List (Prod Nat Blk)), n := 0, m := 26 : St})))))
theorem vLoad_eq (a b c : Int) (l : List Held) (o : ByteArray) (I : St → Prop) (v : AV) : vLoad a b c l o I v = (evF Try.prog T0 Try.f20 [] (atK 0 (hd Try.f20 5) [] [1,4,5,12,13,14] I) [qAV a b c (rowH l), .s o] [] [] v []) := by kernel_rfl

def vLoadL (a b c : Int) (l : List Held) (o : ByteArray) (j : Nat) (n : Int) (I : St → Prop) (v : AV) : Prop :=
 (brP (decide ((((j : Nat) : Int) : Int) < (((List.length (Q.rowH l)) : Nat) : Int))) ((((0 : Int) : Int) ≤ ((j : Nat) : Int)) ∧
 (((((j : Nat) : Int) : Int) < (((List.length (Q.rowH l)) : Nat) : Int)) ∧
 (∃ x : ByteArray, (∃ x1 : ByteArray, (∃ n1 : Int, (∃ x2 : ByteArray, (∃ n2 : Int, (∃ n3 : Int, (∃ n4 : Int, (∃ n5 : Int, ((((Q.rowH l))[(Int.toNat ((j : Nat) : Int))]? = ((Option.some [(AV.s x), (AV.s x1), (AV.i IntKind.i64 n1), (AV.s x2), (AV.i IntKind.i64 n2), (AV.i IntKind.i64 n3), (AV.i IntKind.i64 n4), (AV.i IntKind.i64 n5)]) : (Option (List AV)))) ∧
 (((List.length (([(AV.s x)] ++ ([(AV.s x1)] ++ ([] : List AV) : (List AV)) : (List AV)) ++ ([(AV.i IntKind.i64 n1)] ++ ([(AV.s x2)] ++ ([(AV.i IntKind.i64 n2)] ++ ([(AV.i IntKind.i64 n3)] ++ ([(AV.i IntKind.i64 n4)] ++ ([(AV.i IntKind.i64 n5)] ++ ([] : List AV) : (List AV)) : (List AV)) : (List AV)) : (List AV)) : (List AV)) : (List AV)) : (List AV))) = (8 : Nat)) ∧
 (brP (strEq x2 o) ((AtL (hd Try.f20 (5 : Nat)) (hd Try.f20 (5 : Nat))) ∧
 (I { t := [(1, (AV.s o)), (4, (AV.i IntKind.i64 (0 : Int))), (5, (AV.i IntKind.i64 (IntKind.wrap IntKind.i64 (n + (1 : Int) : Int)))), (12, (AV.sl (Q.rowH l))), (13, (AV.i IntKind.i64 (((List.length (Q.rowH l)) : Nat) : Int))), (14, (AV.i IntKind.i64 (IntKind.wrap IntKind.i64 (((j : Nat) : Int) + (1 : Int) : Int))))], σ := ([] : List (Prod Nat Blk)), n := 0, m := 26 : St})) ((AtL (hd Try.f20 (5 : Nat)) (hd Try.f20 (5 : Nat))) ∧
 (I { t := [(1, (AV.s o)), (4, (AV.i IntKind.i64 (0 : Int))), (5, (AV.i IntKind.i64 n)), (12, (AV.sl (Q.rowH l))), (13, (AV.i IntKind.i64 (((List.length (Q.rowH l)) : Nat) : Int))), (14, (AV.i IntKind.i64 (IntKind.wrap IntKind.i64 (((j : Nat) : Int) + (1 : Int) : Int))))], σ := ([] : List (Prod Nat Blk)), n := 0, m := 26 : St}))))))))))))))) (((AV.i IntKind.i64 n) = (v : AV)) ∧
 (([] : List (Prod Nat Blk)) = (([] : List (Prod Nat Blk)) : Heap))))
theorem vLoadL_eq (a b c : Int) (l : List Held) (o : ByteArray) (j : Nat) (n : Int) (I : St → Prop) (v : AV) : vLoadL a b c l o j n I v = (evL Try.prog T0 Try.f20 [] (atK 0 (hd Try.f20 5) [] [1,4,5,12,13,14] I) 5 (iLd a b c l o j n) 0 [] v []) := by kernel_rfl

def vActive (a b c : Int) (l : List Held) (m : Mom) (v : AV) : Prop :=
 (∃ x : Bool, ((ACalls Try.prog 13 [(AV.ag [(AV.i IntKind.i64 a), (AV.i IntKind.i64 b), (AV.i IntKind.i64 c), (AV.sl (Q.rowH l))])] ([] : List (Prod Nat Blk)) (AV.b x) ([] : List (Prod Nat Blk))) ∧
 (brP (!x) (((AV.tup [(AV.ag [(AV.s (ByteArray.mk (Array.mk ([] : List UInt8)))), (AV.s (ByteArray.mk (Array.mk ([] : List UInt8)))), (AV.i IntKind.i64 (0 : Int)), (AV.s (ByteArray.mk (Array.mk ([] : List UInt8)))), (AV.i IntKind.i64 (0 : Int)), (AV.i IntKind.i64 (0 : Int)), (AV.i IntKind.i64 (0 : Int)), (AV.i IntKind.i64 (0 : Int))]), (AV.b Bool.false)]) = (v : AV)) ∧
 (([] : List (Prod Nat Blk)) = (([] : List (Prod Nat Blk)) : Heap))) (∃ n : Int, ((ACalls Try.prog 42 [(AV.ag [(AV.i IntKind.i64 a), (AV.i IntKind.i64 b), (AV.i IntKind.i64 c), (AV.sl (Q.rowH l))]), (AV.ag [(AV.s (m).1), (AV.s (m).2)]), (AV.i IntKind.i64 (m).3), (AV.i IntKind.i64 (m).4)] ([] : List (Prod Nat Blk)) (AV.i IntKind.i64 n) ([] : List (Prod Nat Blk))) ∧
 (brP (decide ((n : Int) < (0 : Int))) (((AV.tup [(AV.ag [(AV.s (ByteArray.mk (Array.mk ([] : List UInt8)))), (AV.s (ByteArray.mk (Array.mk ([] : List UInt8)))), (AV.i IntKind.i64 (0 : Int)), (AV.s (ByteArray.mk (Array.mk ([] : List UInt8)))), (AV.i IntKind.i64 (0 : Int)), (AV.i IntKind.i64 (0 : Int)), (AV.i IntKind.i64 (0 : Int)), (AV.i IntKind.i64 (0 : Int))]), (AV.b Bool.false)]) = (v : AV)) ∧
 (([] : List (Prod Nat Blk)) = (([] : List (Prod Nat Blk)) : Heap))) ((((0 : Int) : Int) ≤ n) ∧
 (((n : Int) < (((List.length (Q.rowH l)) : Nat) : Int)) ∧
 (∃ x1 : ByteArray, (∃ x2 : ByteArray, (∃ n1 : Int, (∃ x3 : ByteArray, (∃ n2 : Int, (∃ n3 : Int, (∃ n4 : Int, (∃ n5 : Int, ((((Q.rowH l))[(Int.toNat n)]? = ((Option.some [(AV.s x1), (AV.s x2), (AV.i IntKind.i64 n1), (AV.s x3), (AV.i IntKind.i64 n2), (AV.i IntKind.i64 n3), (AV.i IntKind.i64 n4), (AV.i IntKind.i64 n5)]) : (Option (List AV)))) ∧
 (((List.length (([(AV.s x1)] ++ ([(AV.s x2)] ++ ([] : List AV) : (List AV)) : (List AV)) ++ ([(AV.i IntKind.i64 n1)] ++ ([(AV.s x3)] ++ ([(AV.i IntKind.i64 n2)] ++ ([(AV.i IntKind.i64 n3)] ++ ([(AV.i IntKind.i64 n4)] ++ ([(AV.i IntKind.i64 n5)] ++ ([] : List AV) : (List AV)) : (List AV)) : (List AV)) : (List AV)) : (List AV)) : (List AV)) : (List AV))) = (8 : Nat)) ∧
 (((AV.tup [(AV.ag [(AV.s x1), (AV.s x2), (AV.i IntKind.i64 n1), (AV.s x3), (AV.i IntKind.i64 n2), (AV.i IntKind.i64 n3), (AV.i IntKind.i64 n4), (AV.i IntKind.i64 n5)]), (AV.b Bool.true)]) = (v : AV)) ∧
 (([] : List (Prod Nat Blk)) = (([] : List (Prod Nat Blk)) : Heap)))))))))))))))))))))
theorem vActive_eq (a b c : Int) (l : List Held) (m : Mom) (v : AV) : vActive a b c l m v = (evF Try.prog T0 Try.f22 [] noK [qAV a b c (rowH l), .ag [.s m.p, .s m.t], .i .i64 m.e, .i .i64 m.now] [] [] v []) := by kernel_rfl

def iBs (l : List Held) (x : Held) (i j : Nat) : St := { t := [(0, .sl (rowH l)), (2, .fn 48 [] []), (4, .ptr 0 0), (6, .i .i64 0), (7, .b false), (8, .i .i64 (rowH l).length), (9, .i .i64 i), (10, .i .i64 j)], σ := [(0, .cells x.cells)], n := 1, m := 49 }
def vBs (l : List Held) (x : Held) (I : St → Prop) (v : AV) : Prop :=
 ((AtL (hd Try.f47 (3 : Nat)) (hd Try.f47 (3 : Nat))) ∧
 (I { t := [(0, (AV.sl (Q.rowH l))), (2, (AV.fn 48 ([] : List AV) ([] : List AV))), (4, (AV.ptr 0 0)), (6, (AV.i IntKind.i64 (0 : Int))), (7, (AV.b Bool.false)), (8, (AV.i IntKind.i64 (((List.length (Q.rowH l)) : Nat) : Int))), (9, (AV.i IntKind.i64 (0 : Int))), (10, (AV.i IntKind.i64 (((List.length (Q.rowH l)) : Nat) : Int)))], σ := [(0, (Blk.cells [(AV.s (x).1), (AV.s (x).2), (AV.i IntKind.i64 (x).3), (AV.s (x).4), (AV.i IntKind.i64 (x).5), (AV.i IntKind.i64 (x).6), (AV.i IntKind.i64 (x).7), (AV.i IntKind.i64 (x).8)]))], n := 1, m := 49 : St}))
theorem vBs_eq (l : List Held) (x : Held) (I : St → Prop) (v : AV) : vBs l x I v = (evF Try.prog T0 Try.f47 [] (atK 0 (hd Try.f47 3) [0] [0,2,4,6,7,8,9,10] I) [.sl (rowH l), .ag x.cells, .fn 48 [] []] [] [] v []) := by kernel_rfl

def vBsL (l : List Held) (x : Held) (i j : Nat) (I : St → Prop) (v : AV) : Prop :=
 (brP (decide ((((i : Nat) : Int) : Int) < ((j : Nat) : Int))) ((((0 : Int) : Int) ≤ (1 : Int)) ∧
 ((((0 : Int) : Int) ≤ (IntKind.wrap IntKind.i64 (Int.fdiv (IntKind.wrap IntKind.u64 (IntKind.wrap IntKind.i64 (((i : Nat) : Int) + ((j : Nat) : Int) : Int))) (2 : Int)))) ∧
 ((((IntKind.wrap IntKind.i64 (Int.fdiv (IntKind.wrap IntKind.u64 (IntKind.wrap IntKind.i64 (((i : Nat) : Int) + ((j : Nat) : Int) : Int))) (2 : Int))) : Int) < (((List.length (Q.rowH l)) : Nat) : Int)) ∧
 (∃ x1 : ByteArray, (∃ x2 : ByteArray, (∃ n : Int, (∃ x3 : ByteArray, (∃ n1 : Int, (∃ n2 : Int, (∃ n3 : Int, (∃ n4 : Int, ((((Q.rowH l))[(Int.toNat (IntKind.wrap IntKind.i64 (Int.fdiv (IntKind.wrap IntKind.u64 (IntKind.wrap IntKind.i64 (((i : Nat) : Int) + ((j : Nat) : Int) : Int))) (2 : Int))))]? = ((Option.some [(AV.s x1), (AV.s x2), (AV.i IntKind.i64 n), (AV.s x3), (AV.i IntKind.i64 n1), (AV.i IntKind.i64 n2), (AV.i IntKind.i64 n3), (AV.i IntKind.i64 n4)]) : (Option (List AV)))) ∧
 (((List.length (([(AV.s x1)] ++ ([(AV.s x2)] ++ ([] : List AV) : (List AV)) : (List AV)) ++ ([(AV.i IntKind.i64 n)] ++ ([(AV.s x3)] ++ ([(AV.i IntKind.i64 n1)] ++ ([(AV.i IntKind.i64 n2)] ++ ([(AV.i IntKind.i64 n3)] ++ ([(AV.i IntKind.i64 n4)] ++ ([] : List AV) : (List AV)) : (List AV)) : (List AV)) : (List AV)) : (List AV)) : (List AV)) : (List AV))) = (8 : Nat)) ∧
 (∃ n5 : Int, ((ACalls Try.prog 48 [(AV.ag [(AV.s x1), (AV.s x2), (AV.i IntKind.i64 n), (AV.s x3), (AV.i IntKind.i64 n1), (AV.i IntKind.i64 n2), (AV.i IntKind.i64 n3), (AV.i IntKind.i64 n4)]), (AV.ag [(AV.s (x).1), (AV.s (x).2), (AV.i IntKind.i64 (x).3), (AV.s (x).4), (AV.i IntKind.i64 (x).5), (AV.i IntKind.i64 (x).6), (AV.i IntKind.i64 (x).7), (AV.i IntKind.i64 (x).8)])] ([] : List (Prod Nat Blk)) (AV.i IntKind.i64 n5) ([] : List (Prod Nat Blk))) ∧
 ((Bool.true = (Bool.true : Bool)) ∧
 (brP (decide ((n5 : Int) < (0 : Int))) ((AtL (hd Try.f47 (3 : Nat)) (hd Try.f47 (3 : Nat))) ∧
 (I { t := [(0, (AV.sl (Q.rowH l))), (2, (AV.fn 48 ([] : List AV) ([] : List AV))), (4, (AV.ptr 0 0)), (6, (AV.i IntKind.i64 (0 : Int))), (7, (AV.b Bool.false)), (8, (AV.i IntKind.i64 (((List.length (Q.rowH l)) : Nat) : Int))), (9, (AV.i IntKind.i64 (IntKind.wrap IntKind.i64 ((IntKind.wrap IntKind.i64 (Int.fdiv (IntKind.wrap IntKind.u64 (IntKind.wrap IntKind.i64 (((i : Nat) : Int) + ((j : Nat) : Int) : Int))) (2 : Int))) + (1 : Int) : Int)))), (10, (AV.i IntKind.i64 ((j : Nat) : Int)))], σ := [(0, (Blk.cells [(AV.s (x).1), (AV.s (x).2), (AV.i IntKind.i64 (x).3), (AV.s (x).4), (AV.i IntKind.i64 (x).5), (AV.i IntKind.i64 (x).6), (AV.i IntKind.i64 (x).7), (AV.i IntKind.i64 (x).8)]))], n := 1, m := 49 : St})) ((AtL (hd Try.f47 (3 : Nat)) (hd Try.f47 (3 : Nat))) ∧
 (I { t := [(0, (AV.sl (Q.rowH l))), (2, (AV.fn 48 ([] : List AV) ([] : List AV))), (4, (AV.ptr 0 0)), (6, (AV.i IntKind.i64 (0 : Int))), (7, (AV.b Bool.false)), (8, (AV.i IntKind.i64 (((List.length (Q.rowH l)) : Nat) : Int))), (9, (AV.i IntKind.i64 ((i : Nat) : Int))), (10, (AV.i IntKind.i64 (IntKind.wrap IntKind.i64 (Int.fdiv (IntKind.wrap IntKind.u64 (IntKind.wrap IntKind.i64 (((i : Nat) : Int) + ((j : Nat) : Int) : Int))) (2 : Int)))))], σ := [(0, (Blk.cells [(AV.s (x).1), (AV.s (x).2), (AV.i IntKind.i64 (x).3), (AV.s (x).4), (AV.i IntKind.i64 (x).5), (AV.i IntKind.i64 (x).6), (AV.i IntKind.i64 (x).7), (AV.i IntKind.i64 (x).8)]))], n := 1, m := 49 : St}))))))))))))))))))) (brP (decide ((((i : Nat) : Int) : Int) < (((List.length (Q.rowH l)) : Nat) : Int))) ((((0 : Int) : Int) ≤ ((i : Nat) : Int)) ∧
 (((((i : Nat) : Int) : Int) < (((List.length (Q.rowH l)) : Nat) : Int)) ∧
 (∃ x1 : ByteArray, (∃ x2 : ByteArray, (∃ n : Int, (∃ x3 : ByteArray, (∃ n1 : Int, (∃ n2 : Int, (∃ n3 : Int, (∃ n4 : Int, ((((Q.rowH l))[(Int.toNat ((i : Nat) : Int))]? = ((Option.some [(AV.s x1), (AV.s x2), (AV.i IntKind.i64 n), (AV.s x3), (AV.i IntKind.i64 n1), (AV.i IntKind.i64 n2), (AV.i IntKind.i64 n3), (AV.i IntKind.i64 n4)]) : (Option (List AV)))) ∧
 (((List.length (([(AV.s x1)] ++ ([(AV.s x2)] ++ ([] : List AV) : (List AV)) : (List AV)) ++ ([(AV.i IntKind.i64 n)] ++ ([(AV.s x3)] ++ ([(AV.i IntKind.i64 n1)] ++ ([(AV.i IntKind.i64 n2)] ++ ([(AV.i IntKind.i64 n3)] ++ ([(AV.i IntKind.i64 n4)] ++ ([] : List AV) : (List AV)) : (List AV)) : (List AV)) : (List AV)) : (List AV)) : (List AV)) : (List AV))) = (8 : Nat)) ∧
 (∃ n5 : Int, ((ACalls Try.prog 48 [(AV.ag [(AV.s x1), (AV.s x2), (AV.i IntKind.i64 n), (AV.s x3), (AV.i IntKind.i64 n1), (AV.i IntKind.i64 n2), (AV.i IntKind.i64 n3), (AV.i IntKind.i64 n4)]), (AV.ag [(AV.s (x).1), (AV.s (x).2), (AV.i IntKind.i64 (x).3), (AV.s (x).4), (AV.i IntKind.i64 (x).5), (AV.i IntKind.i64 (x).6), (AV.i IntKind.i64 (x).7), (AV.i IntKind.i64 (x).8)])] ([] : List (Prod Nat Blk)) (AV.i IntKind.i64 n5) ([] : List (Prod Nat Blk))) ∧
 ((Bool.true = (Bool.true : Bool)) ∧
 (((AV.tup [(AV.i IntKind.i64 ((i : Nat) : Int)), (AV.b (decide (n5 = ((0 : Int) : Int))))]) = (v : AV)) ∧
 (([] : List (Prod Nat Blk)) = (([] : List (Prod Nat Blk)) : Heap)))))))))))))))))) ((Bool.true = (Bool.true : Bool)) ∧
 (((AV.tup [(AV.i IntKind.i64 ((i : Nat) : Int)), (AV.b Bool.false)]) = (v : AV)) ∧
 (([] : List (Prod Nat Blk)) = (([] : List (Prod Nat Blk)) : Heap))))))
theorem vBsL_eq (l : List Held) (x : Held) (i j : Nat) (I : St → Prop) (v : AV) : vBsL l x i j I v = (evL Try.prog T0 Try.f47 [] (atK 0 (hd Try.f47 3) [0] [0,2,4,6,7,8,9,10] I) 3 (iBs l x i j) 0 [] v []) := by kernel_rfl

def sCl (a : AV) : St := { t := [(0, a)], σ := [], n := 0, m := 8 }
def clR (v : List (List AV)) : AV → St → Prop := nilR 41 8 (RetR 0 [0] (.own 0) [(0, .row 41 8 v)])
def vClN (R : AV → St → Prop) : Prop :=
 (R AV.nil { t := [(0, AV.nil), (2, AV.nil), (3, AV.nil), (4, (AV.b Bool.true))], σ := ([] : List (Prod Nat Blk)), n := 4, m := 8 : St})
theorem vClN_eq (R : AV → St → Prop) : vClN R = (evB Try.prog T0 Try.f50 [] noK (sCl .nil) R) := by kernel_rfl

def vClE (R : AV → St → Prop) : Prop :=
 (((0 : Nat) ≤ 140737488355328) ∧
 (((0 : Nat) ≤ 9223372036854775807) ∧
 ((∀ (y : (List AV)), ((List.Mem y ([] : List (List AV))) → ((List.length y) = (8 : Nat)))) ∧
 (R (AV.own 5) { t := [(0, AV.sle), (2, (AV.own 5)), (3, AV.sle), (4, (AV.b Bool.false)), (5, (AV.own 3)), (6, AV.sle), (7, (AV.own 5))], σ := [(5, (Blk.row 41 8 ([] : List (List AV))))], n := 7, m := 8 : St}))))
theorem vClE_eq (R : AV → St → Prop) : vClE R = (evB Try.prog T0 Try.f50 [] noK (sCl .sle) R) := by kernel_rfl

def vClC (x : List AV) (l : List (List AV)) (R : AV → St → Prop) : Prop :=
 (((((0 + (List.length (x :: l)) : Nat) * 88 : Nat) : Nat) ≤ 140737488355328) ∧
 ((((0 + (List.length (x :: l)) : Nat) : Nat) ≤ 9223372036854775807) ∧
 ((∀ (y : (List AV)), ((List.Mem y (x :: l)) → ((List.length y) = (8 : Nat)))) ∧
 (R (AV.own 5) { t := [(0, (AV.sl (x :: l))), (2, (AV.own 5)), (3, (AV.sl (x :: l))), (4, (AV.b Bool.false)), (5, (AV.own 3)), (6, (AV.sl (x :: l))), (7, (AV.own 5))], σ := [(5, (Blk.row 41 8 (x :: l)))], n := 7, m := 8 : St}))))
theorem vClC_eq (x : List AV) (l : List (List AV)) (R : AV → St → Prop) : vClC x l R = (evB Try.prog T0 Try.f50 [] noK (sCl (.sl (x :: l))) R) := by kernel_rfl

end Go.AM.Q
