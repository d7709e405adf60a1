/- Quarantine: the law's sanity check holds, and so does its first law. -/
import Derived.Test.YthcpekjcnokonaaQP
set_option maxRecDepth 100000
set_option linter.unusedVariables false
set_option linter.unusedSimpArgs false
namespace Go.AM.Q
open Go.Proofs
def kP : ByteArray := ⟨⟨[112]⟩⟩
def kT : ByteArray := ⟨⟨[116]⟩⟩
def kA : ByteArray := ⟨⟨[97, 110, 110]⟩⟩
def kX : Held := ⟨kP, kT, 0, kA, 5, 15, 0, 0⟩
def kY : Held := ⟨kP, kT, 1, kA, 5, 15, 0, 0⟩
def kZ : Held := ⟨kP, kT, 0, kA, 5, 24, 1, 0⟩
theorem k1 : newR 1 2 10 = okQ 1 2 10 [] := by kernel_rfl
theorem k2 : addR 1 2 10 [] kX = okQ 1 2 10 [kX] := by kernel_rfl
theorem k3 : addR 1 2 10 [kX] kY = errQ 43 := by kernel_rfl
theorem k4 : renewR 1 2 10 [kX] ⟨kP, kT, 0, 14⟩ 24 = okQ 1 2 10 [kZ] := by kernel_rfl
theorem k5 : renewR 1 2 10 [kZ] ⟨kP, kT, 0, 14⟩ 25 = errQ 45 := by kernel_rfl
theorem k6 : expR 1 2 10 [kZ] 24 = .tup [qAV 1 2 10 (rowH []), .sl (rowH [kZ]), .i .i64 0] := by kernel_rfl
theorem known_calls : ACalls Try.prog 14 [] [] (.b true) [] :=
  acalls_vc (vKnown_eq _) (by kernel_rfl) (by kernel_rfl) noK_runs (by
    have c1 := new_calls 1 2 10
    have c2 := add_calls 1 2 10 [] kP kT 0 kA 5 15
    have c3 := add_calls 1 2 10 [kX] kP kT 1 kA 5 15
    have c4 := renew_calls 1 2 10 [kX] ⟨kP, kT, 0, 14⟩ 24 (by decide)
    have c5 := renew_calls 1 2 10 [kZ] ⟨kP, kT, 0, 14⟩ 25 (by decide)
    have c6 := expire_calls 1 2 10 [kZ] 24
    rw [k1] at c1
    rw [show addR 1 2 10 [] ⟨kP, kT, 0, kA, 5, 15, 0, 0⟩ = _ from k2] at c2
    rw [show addR 1 2 10 [kX] ⟨kP, kT, 1, kA, 5, 15, 0, 0⟩ = _ from k3] at c3
    rw [k4] at c4
    rw [k5] at c5
    rw [k6] at c6
    simp only [vKnown, brP_iff]
    refine ⟨_, _, _, _, _, c1, _, _, _, _, _, c2, _, _, _, _, _, c3, _, _, _, _, _, c4, _, _, _, _, _, c5, _, _, _, _, _, _, c6, ?_⟩
    simp [rowH, kZ, Held.cells])
theorem listEq_iff : ∀ l m : List Held, listEq l m = true ↔ l = m
  | [], [] => by simp [listEq]
  | [], _ :: _ => by simp [listEq]
  | _ :: _, [] => by simp [listEq]
  | h :: r, k :: s => by simp [listEq, heldEq_iff, listEq_iff r s]
theorem sameB_iff (a b c a' b' c' : Int) (l m : List Held) : sameB a b c a' b' c' l m = true ↔ a = a' ∧ b = b' ∧ c = c' ∧ l = m := by
  simp only [sameB, Bool.and_eq_true, decide_eq_true_eq, listEq_iff, and_assoc]
theorem sameB_self (a b c : Int) (l : List Held) : sameB a b c a b c l l = true := (sameB_iff ..).2 ⟨rfl, rfl, rfl, rfl⟩
theorem same_self (a b c : Int) (l : List Held) (hx : l.length < 9223372036854775807) : ACalls Try.prog 12 [qAV a b c (rowH l), qAV a b c (rowH l)] [] (.b true) [] := by
  have := same_calls a b c a b c l l hx
  rwa [sameB_self] at this
theorem check_nil {a b c : Int} (h : sizesB a b c = true) : checkB a b c [] = true := by
  rw [check_iff]
  refine ⟨h, ?_, .nil a c⟩
  simp only [sizesB, Bool.and_eq_true, decide_eq_true_eq] at h
  simp only [List.length_nil]
  omega
theorem news_calls (a b c : Int) : ACalls Try.prog 3 [.i .i64 a, .i .i64 b, .i .i64 c] [] (.b true) [] :=
  acalls_vc (vNews_eq a b c _) (by kernel_rfl) (by kernel_rfl) noK_runs (by
    have c1 := new_calls a b c
    have c2 := new2_calls a b c
    simp only [vNews, brP_iff]
    cases h : sizesB a b c with
    | true =>
      rw [newR, h] at c1 c2
      refine ⟨_, _, _, _, _, c1, _, _, _, _, _, c2, fun _ => ⟨true, same_self a b c [] (by decide), fun _ => ⟨_, check_calls a b c [], fun _ => ⟨_, known_calls, rfl, by trivial⟩, fun h1 => ?_⟩, fun h1 => by cases h1⟩, fun h1 => by cases h1⟩
      rw [check_nil h] at h1
      simp at h1
    | false =>
      rw [newR, h] at c1 c2
      refine ⟨_, _, _, _, _, c1, _, _, _, _, _, c2, fun _ => ⟨true, same_self 0 0 0 [] (by decide), fun _ => ⟨_, check_calls 0 0 0 [], fun _ => ⟨_, known_calls, rfl, by trivial⟩, fun h1 => ?_⟩, fun h1 => by cases h1⟩, fun h1 => by simp at h1⟩
      rw [show checkB 0 0 0 [] = false by rfl] at h1
      simp at h1)
end Go.AM.Q
