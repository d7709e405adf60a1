/- The tape: conditions of its functions. The tape: contracts of its functions: a draw lies in its range, and the tape goes on by one place. Quarantine: conditions of the law's draws and plays. Quarantine: the plain law of what changes keep: after each change a well-formed quarantine is well-formed. Nothing of the program's code. Quarantine: contracts of the law's draws and plays: each play of the program is that of the reference. Quarantine: contract of the law's play: the program's call and the reference's give the same, and the quarantine stays well-formed. Quarantine: conditions of the law's 'lived'. Quarantine: contract of 'lived': a quarantine after some calls, in which program and reference agree; and the law 'QuarantinePlays'. -/
import Derived.Test.YthcpekjcnokonaaZ3
import Derived.KernelRfl
set_option maxRecDepth 100000
set_option linter.unusedVariables false
namespace Go.AM.Q
open Go.Proofs
--BEGIN
/-- A draw from the tape: what it gives, and where the tape stands. -/
def tapeS (mk : Bool → ByteArray → Int → AV) : CSpec :=
  { frz := fun n => !Nat.beq n 0, ex := fun a σ K => match a, σ with
      | .ptr 0 0 :: _, [(0, .cells [x, .i .i64 _])] => ∃ b s n m, K (mk b s n) [(0, .cells [x, .i .i64 m])]
      | _, _ => False
    ok := fun a σ K h => by
      split at h
      · obtain ⟨b, s, n, m, h⟩ := h
        exact ⟨_, _, h, fun K' hk => ⟨b, s, n, m, hk⟩⟩
      · exact h.elim }
def tapeI : CSpec :=
  { frz := fun n => !Nat.beq n 0, ex := fun a σ K => match a, σ with
      | .ptr 0 0 :: _, [(0, .cells [x, .i .i64 _])] => ∃ n m, K (.i .i64 n) [(0, .cells [x, .i .i64 m])]
      | _, _ => False
    ok := fun a σ K h => by
      split at h
      · obtain ⟨n, m, h⟩ := h
        exact ⟨_, _, h, fun K' hk => ⟨n, m, hk⟩⟩
      · exact h.elim }
def tapeT : CSpec :=
  { frz := fun n => !Nat.beq n 0, ex := fun a σ K => match a, σ with
      | .ptr 0 0 :: _, [(0, .cells [x, .i .i64 _])] => ∃ s m, K (.s s) [(0, .cells [x, .i .i64 m])]
      | _, _ => False
    ok := fun a σ K h => by
      split at h
      · obtain ⟨n, m, h⟩ := h
        exact ⟨_, _, h, fun K' hk => ⟨n, m, hk⟩⟩
      · exact h.elim }
def TT : Nat → Option CSpec := fun n =>
  bif Nat.beq n 33 then some tapeI else
  bif Nat.beq n 63 then some tapeI else
  bif Nat.beq n 62 then some tapeT else none
/-- A tape: what it holds, and where it stands. -/
def tpB (ls : List Int) (m : Int) : Heap := [(0, .cells [.sl (rowI ls), .i .i64 m])]
def rowS (xs : List ByteArray) : List (List AV) := xs.map fun x => [.s x]
def vFold (v n : Int) (r : AV) : Prop :=
 (brP (decide ((n : Int) ≤ (1 : Int))) (((AV.i IntKind.i64 (0 : Int)) = (r : AV)) ∧
 (([] : List (Prod Nat Blk)) = (([] : List (Prod Nat Blk)) : Heap))) ((¬ (n = ((0 : Int) : Int))) ∧
 (brP (decide (((Int.tmod v n) : Int) < (0 : Int))) (((AV.i IntKind.i64 (IntKind.wrap IntKind.i64 ((Int.tmod v n) + n : Int))) = (r : AV)) ∧
 (([] : List (Prod Nat Blk)) = (([] : List (Prod Nat Blk)) : Heap))) (((AV.i IntKind.i64 (Int.tmod v n)) = (r : AV)) ∧
 (([] : List (Prod Nat Blk)) = (([] : List (Prod Nat Blk)) : Heap))))))
theorem vFold_eq (v n : Int) (r : AV) : vFold v n r = (evF Try.prog TT Try.f16 [] noK [.i .i64 v, .i .i64 n] [] [] r []) := by kernel_rfl

def vNext (ls : List Int) (m n : Int) (r : AV) (σ : Heap) : Prop :=
 ((¬ ((11 : Int) = ((0 : Int) : Int))) ∧
 ((Bool.true = (Bool.true : Bool)) ∧
 (brP (decide ((m : Int) < (((List.length (Q.rowI ls)) : Nat) : Int))) ((((0 : Int) : Int) ≤ m) ∧
 (((m : Int) < (((List.length (Q.rowI ls)) : Nat) : Int)) ∧
 (∃ n1 : Int, ((((Q.rowI ls))[(Int.toNat m)]? = ((Option.some [(AV.i IntKind.i64 n1)]) : (Option (List AV)))) ∧
 ((1 = (1 : Nat)) ∧
 ((Bool.true = (Bool.true : Bool)) ∧
 (∃ n2 : Int, ((ACalls Try.prog 16 [(AV.i IntKind.i64 n1), (AV.i IntKind.i64 n)] ([] : List (Prod Nat Blk)) (AV.i IntKind.i64 n2) ([] : List (Prod Nat Blk))) ∧
 (((AV.i IntKind.i64 n2) = (r : AV)) ∧
 ([(0, (Blk.cells [(AV.sl (Q.rowI ls)), (AV.i IntKind.i64 (IntKind.wrap IntKind.i64 (m + (1 : Int) : Int)))]))] = (σ : Heap))))))))))) (∃ n1 : Int, ((ACalls Try.prog 16 [(AV.i IntKind.i64 (Int.tmod (IntKind.wrap IntKind.i64 (m * (7 : Int) : Int)) (11 : Int))), (AV.i IntKind.i64 n)] ([] : List (Prod Nat Blk)) (AV.i IntKind.i64 n1) ([] : List (Prod Nat Blk))) ∧
 (((AV.i IntKind.i64 n1) = (r : AV)) ∧
 ([(0, (Blk.cells [(AV.sl (Q.rowI ls)), (AV.i IntKind.i64 (IntKind.wrap IntKind.i64 (m + (1 : Int) : Int)))]))] = (σ : Heap))))))))
theorem vNext_eq (ls : List Int) (m n : Int) (r : AV) (σ : Heap) : vNext ls m n r σ = (evF Try.prog TT Try.f33 [] noK [.ptr 0 0, .i .i64 n] (tpB ls m) [] r σ) := by kernel_rfl

def vPick (ls ms : List Int) (m : Int) (r : AV) (σ : Heap) : Prop :=
 (brP (decide ((((List.length (Q.rowI ms)) : Nat) : Int) = ((0 : Int) : Int))) (((AV.i IntKind.i64 (0 : Int)) = (r : AV)) ∧
 ([(0, (Blk.cells [(AV.sl (Q.rowI ls)), (AV.i IntKind.i64 m)]))] = (σ : Heap))) (∃ n : Int, (∃ m1 : Int, ((ACalls Try.prog 33 [(AV.ptr 0 0), (AV.i IntKind.i64 (((List.length (Q.rowI ms)) : Nat) : Int))] [(0, (Blk.cells [(AV.sl (Q.rowI ls)), (AV.i IntKind.i64 m)]))] (AV.i IntKind.i64 n) [(0, (Blk.cells [(AV.sl (Q.rowI ls)), (AV.i IntKind.i64 m1)]))]) ∧
 ((((0 : Int) : Int) ≤ n) ∧
 (((n : Int) < (((List.length (Q.rowI ms)) : Nat) : Int)) ∧
 (∃ n1 : Int, ((((Q.rowI ms))[(Int.toNat n)]? = ((Option.some [(AV.i IntKind.i64 n1)]) : (Option (List AV)))) ∧
 ((1 = (1 : Nat)) ∧
 (((AV.i IntKind.i64 n1) = (r : AV)) ∧
 ([(0, (Blk.cells [(AV.sl (Q.rowI ls)), (AV.i IntKind.i64 m1)]))] = (σ : Heap))))))))))))
theorem vPick_eq (ls ms : List Int) (m : Int) (r : AV) (σ : Heap) : vPick ls ms m r σ = (evF Try.prog TT Try.f63 [] noK [.ptr 0 0, .sl (rowI ms)] (tpB ls m) [] r σ) := by kernel_rfl

def vOne (ls : List Int) (ms : List ByteArray) (m : Int) (r : AV) (σ : Heap) : Prop :=
 (brP (decide ((((List.length (Q.rowS ms)) : Nat) : Int) = ((0 : Int) : Int))) (((AV.s (ByteArray.mk (Array.mk ([] : List UInt8)))) = (r : AV)) ∧
 ([(0, (Blk.cells [(AV.sl (Q.rowI ls)), (AV.i IntKind.i64 m)]))] = (σ : Heap))) (∃ n : Int, (∃ m1 : Int, ((ACalls Try.prog 33 [(AV.ptr 0 0), (AV.i IntKind.i64 (((List.length (Q.rowS ms)) : Nat) : Int))] [(0, (Blk.cells [(AV.sl (Q.rowI ls)), (AV.i IntKind.i64 m)]))] (AV.i IntKind.i64 n) [(0, (Blk.cells [(AV.sl (Q.rowI ls)), (AV.i IntKind.i64 m1)]))]) ∧
 ((((0 : Int) : Int) ≤ n) ∧
 (((n : Int) < (((List.length (Q.rowS ms)) : Nat) : Int)) ∧
 (∃ x : ByteArray, ((((Q.rowS ms))[(Int.toNat n)]? = ((Option.some [(AV.s x)]) : (Option (List AV)))) ∧
 ((1 = (1 : Nat)) ∧
 (((AV.s x) = (r : AV)) ∧
 ([(0, (Blk.cells [(AV.sl (Q.rowI ls)), (AV.i IntKind.i64 m1)]))] = (σ : Heap))))))))))))
theorem vOne_eq (ls : List Int) (ms : List ByteArray) (m : Int) (r : AV) (σ : Heap) : vOne ls ms m r σ = (evF Try.prog TT Try.f62 [] noK [.ptr 0 0, .sl (rowS ms)] (tpB ls m) [] r σ) := by kernel_rfl

end Go.AM.Q
set_option maxRecDepth 100000
set_option linter.unusedVariables false
set_option linter.unusedSimpArgs false
namespace Go.AM.Q
open Go.Proofs
theorem rowI_len (l : List Int) : (rowI l).length = l.length := by simp [rowI]
theorem rowI_get {l : List Int} {j : Nat} (h : j < l.length) : (rowI l)[j]? = some [.i .i64 l[j]] := by simp [rowI, h]
theorem rowS_len (l : List ByteArray) : (rowS l).length = l.length := by simp [rowS]
theorem rowS_get {l : List ByteArray} {j : Nat} (h : j < l.length) : (rowS l)[j]? = some [.s l[j]] := by simp [rowS, h]
def foldI (v n : Int) : Int := bif decide (n ≤ 1) then 0 else v % n
theorem foldI_rng (v n : Int) : 0 ≤ foldI v n ∧ (foldI v n < n ∨ foldI v n = 0) := by
  unfold foldI
  cases h : decide (n ≤ 1) with
  | true => simp
  | false =>
    have h1 : ¬ n ≤ 1 := by simpa using h
    have h2 := Int.emod_nonneg v (b := n) (by omega)
    have h3 := Int.emod_lt_of_pos v (b := n) (by omega)
    simp only [cond_false]
    omega
theorem fold_calls (v n : Int) (hn : n ≤ 4611686018427387904) : ACalls Try.prog 16 [.i .i64 v, .i .i64 n] [] (.i .i64 (foldI v n)) [] :=
  acalls_vc (vFold_eq v n _) (by kernel_rfl) (by kernel_rfl) noK_runs (by
    simp only [vFold, brP_iff, foldI]
    refine ⟨fun h => ?_, fun h => ⟨?_, fun h1 => ?_, fun h1 => ?_⟩⟩
    · simp [h]
    · have : ¬ n ≤ 1 := by simpa using h
      omega
    · have h2 : ¬ n ≤ 1 := by simpa using h
      have h3 : Int.tmod v n < 0 := by simpa using h1
      have e : Int.tmod v n + n = v % n := by
        rcases Int.lt_or_le v 0 with hv | hv
        · have := Int.tmod_eq_emod (a := v) (b := n)
          have h4 := Int.emod_nonneg v (b := n) (by omega)
          have h5 := Int.emod_lt_of_pos v (b := n) (by omega)
          split at this <;> omega
        · have := Int.tmod_nonneg n hv
          omega
      have h4 := Int.emod_nonneg v (b := n) (by omega)
      have h5 := Int.emod_lt_of_pos v (b := n) (by omega)
      rw [e, wrap_id (by omega) (by omega)]
      simp [h]
    · have h2 : ¬ n ≤ 1 := by simpa using h
      have h3 : ¬ Int.tmod v n < 0 := by simpa using h1
      have e : Int.tmod v n = v % n := by
        have := Int.tmod_eq_emod (a := v) (b := n)
        have h5 := Int.emod_lt_of_pos v (b := n) (by omega)
        split at this <;> omega
      rw [e]
      simp [h])
/-- The number that the tape holds at a place. -/
def tapeV (ls : List Int) (m : Nat) : Int := (ls[m]?).getD (Int.tmod (IntKind.i64.wrap ((m : Int) * 7)) 11)
def nextI (ls : List Int) (m : Nat) (n : Int) : Int := foldI (tapeV ls m) n
theorem next_calls (ls : List Int) (m : Nat) (n : Int) (hm : m < 4294967296) (hn : n ≤ 4611686018427387904) :
    ACalls Try.prog 33 [.ptr 0 0, .i .i64 n] (tpB ls m) (.i .i64 (nextI ls m n)) (tpB ls (m + 1 : Nat)) :=
  acalls_vc (vNext_eq ls m n _ _) (by kernel_rfl) (by kernel_rfl) noK_runs (by
    have hw : IntKind.i64.wrap ((m : Int) + 1) = ((m + 1 : Nat) : Int) := by rw [wrap_id (by omega) (by omega)]; simp
    simp only [vNext, brP_iff, rowI_len, hw, Int.toNat_natCast]
    refine ⟨by decide, by trivial, fun h => ?_, fun h => ?_⟩
    · have hl : m < ls.length := by simpa using h
      refine ⟨by omega, by omega, ls[m], rowI_get hl, by trivial, by trivial, _, fold_calls _ n hn, ?_, rfl⟩
      simp [nextI, tapeV, hl]
    · have hl : ¬ m < ls.length := by simpa using h
      refine ⟨_, fold_calls _ n hn, ?_, rfl⟩
      have : ls[m]? = none := List.getElem?_eq_none (by omega)
      simp [nextI, tapeV, this])
theorem pick_calls (ls ms : List Int) (m : Nat) (hm : m < 4294967296) (h0 : ms ≠ []) (hl : ms.length < 4294967296) :
    ∃ i, ∃ h : i < ms.length, ACalls Try.prog 63 [.ptr 0 0, .sl (rowI ms)] (tpB ls m) (.i .i64 ms[i]) (tpB ls (m + 1 : Nat)) := by
  have h1 : 0 < ms.length := List.length_pos_iff.2 h0
  have hr := foldI_rng (tapeV ls m) ms.length
  have hi : (nextI ls m ms.length).toNat < ms.length := by unfold nextI; omega
  refine ⟨_, hi, acalls_vc (vPick_eq ls ms m _ _) (by kernel_rfl) (by kernel_rfl) noK_runs ?_⟩
  simp only [vPick, brP_iff, rowI_len]
  refine ⟨fun h => by simp at h; exact absurd h h0, fun _ => ⟨_, _, next_calls ls m ms.length hm (by omega), by unfold nextI; omega, by unfold nextI; omega, _, rowI_get hi, by trivial, rfl, rfl⟩⟩
theorem one_calls (ls : List Int) (ms : List ByteArray) (m : Nat) (hm : m < 4294967296) (h0 : ms ≠ []) (hl : ms.length < 4294967296) :
    ∃ i, ∃ h : i < ms.length, ACalls Try.prog 62 [.ptr 0 0, .sl (rowS ms)] (tpB ls m) (.s ms[i]) (tpB ls (m + 1 : Nat)) := by
  have h1 : 0 < ms.length := List.length_pos_iff.2 h0
  have hr := foldI_rng (tapeV ls m) ms.length
  have hi : (nextI ls m ms.length).toNat < ms.length := by unfold nextI; omega
  refine ⟨_, hi, acalls_vc (vOne_eq ls ms m _ _) (by kernel_rfl) (by kernel_rfl) noK_runs ?_⟩
  simp only [vOne, brP_iff, rowS_len]
  refine ⟨fun h => by simp at h; exact absurd h h0, fun _ => ⟨_, _, next_calls ls m ms.length hm (by omega), by unfold nextI; omega, by unfold nextI; omega, _, rowS_get hi, by trivial, rfl, rfl⟩⟩
end Go.AM.Q
set_option maxRecDepth 100000
set_option linter.unusedVariables false
namespace Go.AM.Q
open Go.Proofs
--BEGIN
/-- A call of a quarantine. -/
structure PCall where
  kind : Int
  e : Int
  a : Int
  b : Int
  p : ByteArray
  t : ByteArray
  o : ByteArray
def PCall.cells (c : PCall) : List AV := [.i .i64 c.kind, .i .i64 c.e, .i .i64 c.a, .i .i64 c.b, .s c.p, .s c.t, .s c.o]
def vDraw (ls : List Int) (m k : Int) (r : AV) (σ : Heap) : Prop :=
 (∃ n : Int, (∃ m1 : Int, ((ACalls Try.prog 33 [(AV.ptr 0 0), (AV.i IntKind.i64 (8 : Int))] [(0, (Blk.cells [(AV.sl (Q.rowI ls)), (AV.i IntKind.i64 m)]))] (AV.i IntKind.i64 n) [(0, (Blk.cells [(AV.sl (Q.rowI ls)), (AV.i IntKind.i64 m1)]))]) ∧
 (∃ n1 : Int, (∃ m2 : Int, ((ACalls Try.prog 33 [(AV.ptr 0 0), (AV.i IntKind.i64 (2 : Int))] [(0, (Blk.cells [(AV.sl (Q.rowI ls)), (AV.i IntKind.i64 m1)]))] (AV.i IntKind.i64 n1) [(0, (Blk.cells [(AV.sl (Q.rowI ls)), (AV.i IntKind.i64 m2)]))]) ∧
 (∃ s : ByteArray, (∃ m3 : Int, ((ACalls Try.prog 62 [(AV.ptr 0 0), (AV.sl [[(AV.s (ByteArray.mk (Array.mk [(116 : UInt8)])))], [(AV.s (ByteArray.mk (Array.mk [(117 : UInt8)])))], [(AV.s (ByteArray.mk (Array.mk [(118 : UInt8)])))]])] [(0, (Blk.cells [(AV.sl (Q.rowI ls)), (AV.i IntKind.i64 m2)]))] (AV.s s) [(0, (Blk.cells [(AV.sl (Q.rowI ls)), (AV.i IntKind.i64 m3)]))]) ∧
 (∃ s1 : ByteArray, (∃ m4 : Int, ((ACalls Try.prog 62 [(AV.ptr 0 0), (AV.sl [[(AV.s (ByteArray.mk (Array.mk [(97 : UInt8), (110 : UInt8), (110 : UInt8)])))], [(AV.s (ByteArray.mk (Array.mk [(98 : UInt8), (111 : UInt8), (98 : UInt8)])))], [(AV.s (ByteArray.mk (Array.mk [(101 : UInt8), (118 : UInt8), (101 : UInt8)])))]])] [(0, (Blk.cells [(AV.sl (Q.rowI ls)), (AV.i IntKind.i64 m3)]))] (AV.s s1) [(0, (Blk.cells [(AV.sl (Q.rowI ls)), (AV.i IntKind.i64 m4)]))]) ∧
 (∃ n2 : Int, (∃ m5 : Int, ((ACalls Try.prog 33 [(AV.ptr 0 0), (AV.i IntKind.i64 (6 : Int))] [(0, (Blk.cells [(AV.sl (Q.rowI ls)), (AV.i IntKind.i64 m4)]))] (AV.i IntKind.i64 n2) [(0, (Blk.cells [(AV.sl (Q.rowI ls)), (AV.i IntKind.i64 m5)]))]) ∧
 (∃ n3 : Int, (∃ m6 : Int, ((ACalls Try.prog 33 [(AV.ptr 0 0), (AV.i IntKind.i64 (9 : Int))] [(0, (Blk.cells [(AV.sl (Q.rowI ls)), (AV.i IntKind.i64 m5)]))] (AV.i IntKind.i64 n3) [(0, (Blk.cells [(AV.sl (Q.rowI ls)), (AV.i IntKind.i64 m6)]))]) ∧
 ((Bool.true = (Bool.true : Bool)) ∧
 (∃ n4 : Int, (∃ m7 : Int, ((ACalls Try.prog 33 [(AV.ptr 0 0), (AV.i IntKind.i64 (30 : Int))] [(0, (Blk.cells [(AV.sl (Q.rowI ls)), (AV.i IntKind.i64 m6)]))] (AV.i IntKind.i64 n4) [(0, (Blk.cells [(AV.sl (Q.rowI ls)), (AV.i IntKind.i64 m7)]))]) ∧
 (brP (decide (n4 = ((0 : Int) : Int))) (∃ s2 : ByteArray, (∃ m8 : Int, ((ACalls Try.prog 62 [(AV.ptr 0 0), (AV.sl [[(AV.s (ByteArray.mk (Array.mk ([] : List UInt8))))], [(AV.s (ByteArray.mk (Array.mk [(97 : UInt8), (32 : UInt8), (110 : UInt8), (97 : UInt8), (109 : UInt8), (101 : UInt8), (32 : UInt8), (116 : UInt8), (104 : UInt8), (97 : UInt8), (116 : UInt8), (32 : UInt8), (104 : UInt8), (97 : UInt8), (115 : UInt8), (32 : UInt8), (109 : UInt8), (111 : UInt8), (114 : UInt8), (101 : UInt8), (32 : UInt8), (116 : UInt8), (104 : UInt8), (97 : UInt8), (110 : UInt8), (32 : UInt8), (50 : UInt8), (52 : UInt8), (32 : UInt8), (98 : UInt8), (121 : UInt8), (116 : UInt8), (101 : UInt8), (115 : UInt8)])))]])] [(0, (Blk.cells [(AV.sl (Q.rowI ls)), (AV.i IntKind.i64 m7)]))] (AV.s s2) [(0, (Blk.cells [(AV.sl (Q.rowI ls)), (AV.i IntKind.i64 m8)]))]) ∧
 (((AV.ag [(AV.i IntKind.i64 n), (AV.i IntKind.i64 n1), (AV.i IntKind.i64 (IntKind.wrap IntKind.i64 ((IntKind.wrap IntKind.i64 (k + n2 : Int)) - (1 : Int) : Int))), (AV.i IntKind.i64 (IntKind.wrap IntKind.i64 ((IntKind.wrap IntKind.i64 ((IntKind.wrap IntKind.i64 ((IntKind.wrap IntKind.i64 (k + n2 : Int)) - (1 : Int) : Int)) + n3 : Int)) - (1 : Int) : Int))), (AV.s (ByteArray.mk (Array.mk [(112 : UInt8)]))), (AV.s s), (AV.s s2)]) = (r : AV)) ∧
 ([(0, (Blk.cells [(AV.sl (Q.rowI ls)), (AV.i IntKind.i64 m8)]))] = (σ : Heap)))))) (brP (decide (n4 = ((1 : Int) : Int))) (∃ n5 : Int, (∃ m8 : Int, ((ACalls Try.prog 63 [(AV.ptr 0 0), (AV.sl [[(AV.i IntKind.i64 (-1 : Int))], [(AV.i IntKind.i64 (64 : Int))]])] [(0, (Blk.cells [(AV.sl (Q.rowI ls)), (AV.i IntKind.i64 m7)]))] (AV.i IntKind.i64 n5) [(0, (Blk.cells [(AV.sl (Q.rowI ls)), (AV.i IntKind.i64 m8)]))]) ∧
 (((AV.ag [(AV.i IntKind.i64 n), (AV.i IntKind.i64 n5), (AV.i IntKind.i64 (IntKind.wrap IntKind.i64 ((IntKind.wrap IntKind.i64 (k + n2 : Int)) - (1 : Int) : Int))), (AV.i IntKind.i64 (IntKind.wrap IntKind.i64 ((IntKind.wrap IntKind.i64 ((IntKind.wrap IntKind.i64 ((IntKind.wrap IntKind.i64 (k + n2 : Int)) - (1 : Int) : Int)) + n3 : Int)) - (1 : Int) : Int))), (AV.s (ByteArray.mk (Array.mk [(112 : UInt8)]))), (AV.s s), (AV.s s1)]) = (r : AV)) ∧
 ([(0, (Blk.cells [(AV.sl (Q.rowI ls)), (AV.i IntKind.i64 m8)]))] = (σ : Heap)))))) (brP (decide (n4 = ((2 : Int) : Int))) (∃ n5 : Int, (∃ m8 : Int, ((ACalls Try.prog 33 [(AV.ptr 0 0), (AV.i IntKind.i64 (3 : Int))] [(0, (Blk.cells [(AV.sl (Q.rowI ls)), (AV.i IntKind.i64 m7)]))] (AV.i IntKind.i64 n5) [(0, (Blk.cells [(AV.sl (Q.rowI ls)), (AV.i IntKind.i64 m8)]))]) ∧
 (∃ n6 : Int, (∃ m9 : Int, ((ACalls Try.prog 33 [(AV.ptr 0 0), (AV.i IntKind.i64 (3 : Int))] [(0, (Blk.cells [(AV.sl (Q.rowI ls)), (AV.i IntKind.i64 m8)]))] (AV.i IntKind.i64 n6) [(0, (Blk.cells [(AV.sl (Q.rowI ls)), (AV.i IntKind.i64 m9)]))]) ∧
 (((AV.ag [(AV.i IntKind.i64 n), (AV.i IntKind.i64 n1), (AV.i IntKind.i64 (IntKind.wrap IntKind.i64 ((1073741824 : Int) - n5 : Int))), (AV.i IntKind.i64 (IntKind.wrap IntKind.i64 ((IntKind.wrap IntKind.i64 ((1073741824 : Int) + n6 : Int)) - (1 : Int) : Int))), (AV.s (ByteArray.mk (Array.mk [(112 : UInt8)]))), (AV.s s), (AV.s s1)]) = (r : AV)) ∧
 ([(0, (Blk.cells [(AV.sl (Q.rowI ls)), (AV.i IntKind.i64 m9)]))] = (σ : Heap))))))))) (((AV.ag [(AV.i IntKind.i64 n), (AV.i IntKind.i64 n1), (AV.i IntKind.i64 (IntKind.wrap IntKind.i64 ((IntKind.wrap IntKind.i64 (k + n2 : Int)) - (1 : Int) : Int))), (AV.i IntKind.i64 (IntKind.wrap IntKind.i64 ((IntKind.wrap IntKind.i64 ((IntKind.wrap IntKind.i64 ((IntKind.wrap IntKind.i64 (k + n2 : Int)) - (1 : Int) : Int)) + n3 : Int)) - (1 : Int) : Int))), (AV.s (ByteArray.mk (Array.mk [(112 : UInt8)]))), (AV.s s), (AV.s s1)]) = (r : AV)) ∧
 ([(0, (Blk.cells [(AV.sl (Q.rowI ls)), (AV.i IntKind.i64 m7)]))] = (σ : Heap))))))))))))))))))))))))))))
theorem vDraw_eq (ls : List Int) (m k : Int) (r : AV) (σ : Heap) : vDraw ls m k r σ = (evF Try.prog TT Try.f35 [] noK [.ptr 0 0, .i .i64 k] (tpB ls m) [] r σ) := by kernel_rfl

def vBegin (ls : List Int) (m : Int) (r : AV) (σ : Heap) : Prop :=
 (∃ n : Int, (∃ m1 : Int, ((ACalls Try.prog 33 [(AV.ptr 0 0), (AV.i IntKind.i64 (5 : Int))] [(0, (Blk.cells [(AV.sl (Q.rowI ls)), (AV.i IntKind.i64 m)]))] (AV.i IntKind.i64 n) [(0, (Blk.cells [(AV.sl (Q.rowI ls)), (AV.i IntKind.i64 m1)]))]) ∧
 (∃ n1 : Int, (∃ m2 : Int, ((ACalls Try.prog 33 [(AV.ptr 0 0), (AV.i IntKind.i64 (IntKind.wrap IntKind.i64 ((1 : Int) + n : Int)))] [(0, (Blk.cells [(AV.sl (Q.rowI ls)), (AV.i IntKind.i64 m1)]))] (AV.i IntKind.i64 n1) [(0, (Blk.cells [(AV.sl (Q.rowI ls)), (AV.i IntKind.i64 m2)]))]) ∧
 (∃ n2 : Int, (∃ m3 : Int, ((ACalls Try.prog 33 [(AV.ptr 0 0), (AV.i IntKind.i64 (9 : Int))] [(0, (Blk.cells [(AV.sl (Q.rowI ls)), (AV.i IntKind.i64 m2)]))] (AV.i IntKind.i64 n2) [(0, (Blk.cells [(AV.sl (Q.rowI ls)), (AV.i IntKind.i64 m3)]))]) ∧
 (∃ n3 : Int, (∃ n4 : Int, (∃ n5 : Int, (∃ xs : (List (List AV)), (∃ n6 : Int, ((ACalls Try.prog 10 [(AV.i IntKind.i64 (IntKind.wrap IntKind.i64 ((1 : Int) + n1 : Int))), (AV.i IntKind.i64 (IntKind.wrap IntKind.i64 ((1 : Int) + n : Int))), (AV.i IntKind.i64 (IntKind.wrap IntKind.i64 ((1 : Int) + n2 : Int)))] ([] : List (Prod Nat Blk)) (AV.tup [(AV.ag ([(AV.i IntKind.i64 n3)] ++ ([(AV.i IntKind.i64 n4)] ++ ([(AV.i IntKind.i64 n5)] ++ ([(AV.sl xs)] ++ ([] : List AV) : (List AV)) : (List AV)) : (List AV)) : (List AV))), (AV.i IntKind.i64 n6)]) ([] : List (Prod Nat Blk))) ∧
 (∃ n7 : Int, (∃ n8 : Int, (∃ n9 : Int, (∃ xs1 : (List (List AV)), (∃ n10 : Int, ((ACalls Try.prog 11 [(AV.i IntKind.i64 (IntKind.wrap IntKind.i64 ((1 : Int) + n1 : Int))), (AV.i IntKind.i64 (IntKind.wrap IntKind.i64 ((1 : Int) + n : Int))), (AV.i IntKind.i64 (IntKind.wrap IntKind.i64 ((1 : Int) + n2 : Int)))] ([] : List (Prod Nat Blk)) (AV.tup [(AV.ag ([(AV.i IntKind.i64 n7)] ++ ([(AV.i IntKind.i64 n8)] ++ ([(AV.i IntKind.i64 n9)] ++ ([(AV.sl xs1)] ++ ([] : List AV) : (List AV)) : (List AV)) : (List AV)) : (List AV))), (AV.i IntKind.i64 n10)]) ([] : List (Prod Nat Blk))) ∧
 (brP (decide (n6 = ((0 : Int) : Int))) (brP (decide (n10 = ((0 : Int) : Int))) (∃ x : Bool, ((ACalls Try.prog 12 [(AV.ag [(AV.i IntKind.i64 n3), (AV.i IntKind.i64 n4), (AV.i IntKind.i64 n5), (AV.sl xs)]), (AV.ag [(AV.i IntKind.i64 n7), (AV.i IntKind.i64 n8), (AV.i IntKind.i64 n9), (AV.sl xs1)])] ([] : List (Prod Nat Blk)) (AV.b x) ([] : List (Prod Nat Blk))) ∧
 ((Bool.true = (Bool.true : Bool)) ∧
 (((AV.tup [(AV.ag [(AV.i IntKind.i64 n3), (AV.i IntKind.i64 n4), (AV.i IntKind.i64 n5), (AV.sl xs)]), (AV.ag [(AV.i IntKind.i64 n7), (AV.i IntKind.i64 n8), (AV.i IntKind.i64 n9), (AV.sl xs1)]), (AV.b x)]) = (r : AV)) ∧
 ([(0, (Blk.cells [(AV.sl (Q.rowI ls)), (AV.i IntKind.i64 m3)]))] = (σ : Heap)))))) ((Bool.true = (Bool.true : Bool)) ∧
 (((AV.tup [(AV.ag [(AV.i IntKind.i64 n3), (AV.i IntKind.i64 n4), (AV.i IntKind.i64 n5), (AV.sl xs)]), (AV.ag [(AV.i IntKind.i64 n7), (AV.i IntKind.i64 n8), (AV.i IntKind.i64 n9), (AV.sl xs1)]), (AV.b Bool.false)]) = (r : AV)) ∧
 ([(0, (Blk.cells [(AV.sl (Q.rowI ls)), (AV.i IntKind.i64 m3)]))] = (σ : Heap))))) ((Bool.true = (Bool.true : Bool)) ∧
 (((AV.tup [(AV.ag [(AV.i IntKind.i64 n3), (AV.i IntKind.i64 n4), (AV.i IntKind.i64 n5), (AV.sl xs)]), (AV.ag [(AV.i IntKind.i64 n7), (AV.i IntKind.i64 n8), (AV.i IntKind.i64 n9), (AV.sl xs1)]), (AV.b Bool.false)]) = (r : AV)) ∧
 ([(0, (Blk.cells [(AV.sl (Q.rowI ls)), (AV.i IntKind.i64 m3)]))] = (σ : Heap))))))))))))))))))))))))))
theorem vBegin_eq (ls : List Int) (m : Int) (r : AV) (σ : Heap) : vBegin ls m r σ = (evF Try.prog TT Try.f32 [] noK [.ptr 0 0] (tpB ls m) [] r σ) := by kernel_rfl

def vPlay (a b c : Int) (l : List Held) (x : PCall) (r : AV) : Prop :=
 (brP (decide ((x).1 = ((0 : Int) : Int))) (∃ n : Int, (∃ n1 : Int, (∃ n2 : Int, (∃ xs : (List (List AV)), (∃ n3 : Int, ((ACalls Try.prog 24 [(AV.ag [(AV.i IntKind.i64 a), (AV.i IntKind.i64 b), (AV.i IntKind.i64 c), (AV.sl (Q.rowH l))]), (AV.ag [(AV.s (x).5), (AV.s (x).6)]), (AV.i IntKind.i64 (x).2), (AV.s (x).7), (AV.i IntKind.i64 (x).3), (AV.i IntKind.i64 (x).4)] ([] : List (Prod Nat Blk)) (AV.tup [(AV.ag ([(AV.i IntKind.i64 n)] ++ ([(AV.i IntKind.i64 n1)] ++ ([(AV.i IntKind.i64 n2)] ++ ([(AV.sl xs)] ++ ([] : List AV) : (List AV)) : (List AV)) : (List AV)) : (List AV))), (AV.i IntKind.i64 n3)]) ([] : List (Prod Nat Blk))) ∧
 (∃ n4 : Int, (∃ n5 : Int, (∃ n6 : Int, (∃ xs1 : (List (List AV)), (∃ n7 : Int, ((ACalls Try.prog 56 [(AV.ag [(AV.i IntKind.i64 a), (AV.i IntKind.i64 b), (AV.i IntKind.i64 c), (AV.sl (Q.rowH l))]), (AV.ag [(AV.s (x).5), (AV.s (x).6)]), (AV.i IntKind.i64 (x).2), (AV.s (x).7), (AV.i IntKind.i64 (x).3), (AV.i IntKind.i64 (x).4)] ([] : List (Prod Nat Blk)) (AV.tup [(AV.ag ([(AV.i IntKind.i64 n4)] ++ ([(AV.i IntKind.i64 n5)] ++ ([(AV.i IntKind.i64 n6)] ++ ([(AV.sl xs1)] ++ ([] : List AV) : (List AV)) : (List AV)) : (List AV)) : (List AV))), (AV.i IntKind.i64 n7)]) ([] : List (Prod Nat Blk))) ∧
 (brP (!(decide (n3 = (n7 : Int)))) ((Bool.true = (Bool.true : Bool)) ∧
 (((AV.tup [(AV.ag [(AV.i IntKind.i64 a), (AV.i IntKind.i64 b), (AV.i IntKind.i64 c), (AV.sl (Q.rowH l))]), (AV.ag [(AV.i IntKind.i64 a), (AV.i IntKind.i64 b), (AV.i IntKind.i64 c), (AV.sl (Q.rowH l))]), (AV.b Bool.false)]) = (r : AV)) ∧
 (([] : List (Prod Nat Blk)) = (([] : List (Prod Nat Blk)) : Heap)))) (∃ x1 : Bool, ((ACalls Try.prog 12 [(AV.ag [(AV.i IntKind.i64 n), (AV.i IntKind.i64 n1), (AV.i IntKind.i64 n2), (AV.sl xs)]), (AV.ag [(AV.i IntKind.i64 n4), (AV.i IntKind.i64 n5), (AV.i IntKind.i64 n6), (AV.sl xs1)])] ([] : List (Prod Nat Blk)) (AV.b x1) ([] : List (Prod Nat Blk))) ∧
 (brP (!x1) ((Bool.true = (Bool.true : Bool)) ∧
 (((AV.tup [(AV.ag [(AV.i IntKind.i64 a), (AV.i IntKind.i64 b), (AV.i IntKind.i64 c), (AV.sl (Q.rowH l))]), (AV.ag [(AV.i IntKind.i64 a), (AV.i IntKind.i64 b), (AV.i IntKind.i64 c), (AV.sl (Q.rowH l))]), (AV.b Bool.false)]) = (r : AV)) ∧
 (([] : List (Prod Nat Blk)) = (([] : List (Prod Nat Blk)) : Heap)))) (brP (decide (n3 = ((0 : Int) : Int))) ((Bool.true = (Bool.true : Bool)) ∧
 (∃ x2 : ByteArray, (∃ x3 : ByteArray, (∃ n8 : Int, (∃ x4 : ByteArray, (∃ n9 : Int, (∃ n10 : Int, (∃ n11 : Int, (∃ n12 : Int, (∃ x5 : Bool, ((ACalls Try.prog 22 [(AV.ag [(AV.i IntKind.i64 n), (AV.i IntKind.i64 n1), (AV.i IntKind.i64 n2), (AV.sl xs)]), (AV.ag [(AV.s (x).5), (AV.s (x).6)]), (AV.i IntKind.i64 (x).2), (AV.i IntKind.i64 (x).3)] ([] : List (Prod Nat Blk)) (AV.tup [(AV.ag (([(AV.s x2)] ++ ([(AV.s x3)] ++ ([] : List AV) : (List AV)) : (List AV)) ++ ([(AV.i IntKind.i64 n8)] ++ ([(AV.s x4)] ++ ([(AV.i IntKind.i64 n9)] ++ ([(AV.i IntKind.i64 n10)] ++ ([(AV.i IntKind.i64 n11)] ++ ([(AV.i IntKind.i64 n12)] ++ ([] : List AV) : (List AV)) : (List AV)) : (List AV)) : (List AV)) : (List AV)) : (List AV)) : (List AV))), (AV.b x5)]) ([] : List (Prod Nat Blk))) ∧
 (∃ x6 : ByteArray, (∃ x7 : ByteArray, (∃ n13 : Int, (∃ x8 : ByteArray, (∃ n14 : Int, (∃ n15 : Int, (∃ n16 : Int, (∃ n17 : Int, (∃ x9 : Bool, ((ACalls Try.prog 61 [(AV.ag [(AV.i IntKind.i64 n4), (AV.i IntKind.i64 n5), (AV.i IntKind.i64 n6), (AV.sl xs1)]), (AV.ag [(AV.s (x).5), (AV.s (x).6)]), (AV.i IntKind.i64 (x).2), (AV.i IntKind.i64 (x).3)] ([] : List (Prod Nat Blk)) (AV.tup [(AV.ag (([(AV.s x6)] ++ ([(AV.s x7)] ++ ([] : List AV) : (List AV)) : (List AV)) ++ ([(AV.i IntKind.i64 n13)] ++ ([(AV.s x8)] ++ ([(AV.i IntKind.i64 n14)] ++ ([(AV.i IntKind.i64 n15)] ++ ([(AV.i IntKind.i64 n16)] ++ ([(AV.i IntKind.i64 n17)] ++ ([] : List AV) : (List AV)) : (List AV)) : (List AV)) : (List AV)) : (List AV)) : (List AV)) : (List AV))), (AV.b x9)]) ([] : List (Prod Nat Blk))) ∧
 (brP (Bool.and (Bool.and (strEq x2 x6) (Bool.and (strEq x3 x7) Bool.true)) (Bool.and (decide (n8 = (n13 : Int))) (Bool.and (strEq x4 x8) (Bool.and (decide (n9 = (n14 : Int))) (Bool.and (decide (n10 = (n15 : Int))) (Bool.and (decide (n11 = (n16 : Int))) (Bool.and (decide (n12 = (n17 : Int))) Bool.true))))))) (brP (x5 == x9) (∃ n18 : Int, ((ACalls Try.prog 20 [(AV.ag [(AV.i IntKind.i64 n), (AV.i IntKind.i64 n1), (AV.i IntKind.i64 n2), (AV.sl xs)]), (AV.s (x).7)] ([] : List (Prod Nat Blk)) (AV.i IntKind.i64 n18) ([] : List (Prod Nat Blk))) ∧
 (∃ n19 : Int, ((ACalls Try.prog 21 [(AV.ag [(AV.i IntKind.i64 n4), (AV.i IntKind.i64 n5), (AV.i IntKind.i64 n6), (AV.sl xs1)]), (AV.s (x).7)] ([] : List (Prod Nat Blk)) (AV.i IntKind.i64 n19) ([] : List (Prod Nat Blk))) ∧
 ((Bool.true = (Bool.true : Bool)) ∧
 (((AV.tup [(AV.ag [(AV.i IntKind.i64 n), (AV.i IntKind.i64 n1), (AV.i IntKind.i64 n2), (AV.sl xs)]), (AV.ag [(AV.i IntKind.i64 n4), (AV.i IntKind.i64 n5), (AV.i IntKind.i64 n6), (AV.sl xs1)]), (AV.b (decide (n18 = (n19 : Int))))]) = (r : AV)) ∧
 (([] : List (Prod Nat Blk)) = (([] : List (Prod Nat Blk)) : Heap)))))))) ((Bool.true = (Bool.true : Bool)) ∧
 (((AV.tup [(AV.ag [(AV.i IntKind.i64 n), (AV.i IntKind.i64 n1), (AV.i IntKind.i64 n2), (AV.sl xs)]), (AV.ag [(AV.i IntKind.i64 n4), (AV.i IntKind.i64 n5), (AV.i IntKind.i64 n6), (AV.sl xs1)]), (AV.b Bool.false)]) = (r : AV)) ∧
 (([] : List (Prod Nat Blk)) = (([] : List (Prod Nat Blk)) : Heap))))) ((Bool.true = (Bool.true : Bool)) ∧
 (((AV.tup [(AV.ag [(AV.i IntKind.i64 n), (AV.i IntKind.i64 n1), (AV.i IntKind.i64 n2), (AV.sl xs)]), (AV.ag [(AV.i IntKind.i64 n4), (AV.i IntKind.i64 n5), (AV.i IntKind.i64 n6), (AV.sl xs1)]), (AV.b Bool.false)]) = (r : AV)) ∧
 (([] : List (Prod Nat Blk)) = (([] : List (Prod Nat Blk)) : Heap)))))))))))))))))))))))))) (∃ x2 : ByteArray, (∃ x3 : ByteArray, (∃ n8 : Int, (∃ x4 : ByteArray, (∃ n9 : Int, (∃ n10 : Int, (∃ n11 : Int, (∃ n12 : Int, (∃ x5 : Bool, ((ACalls Try.prog 22 [(AV.ag [(AV.i IntKind.i64 a), (AV.i IntKind.i64 b), (AV.i IntKind.i64 c), (AV.sl (Q.rowH l))]), (AV.ag [(AV.s (x).5), (AV.s (x).6)]), (AV.i IntKind.i64 (x).2), (AV.i IntKind.i64 (x).3)] ([] : List (Prod Nat Blk)) (AV.tup [(AV.ag (([(AV.s x2)] ++ ([(AV.s x3)] ++ ([] : List AV) : (List AV)) : (List AV)) ++ ([(AV.i IntKind.i64 n8)] ++ ([(AV.s x4)] ++ ([(AV.i IntKind.i64 n9)] ++ ([(AV.i IntKind.i64 n10)] ++ ([(AV.i IntKind.i64 n11)] ++ ([(AV.i IntKind.i64 n12)] ++ ([] : List AV) : (List AV)) : (List AV)) : (List AV)) : (List AV)) : (List AV)) : (List AV)) : (List AV))), (AV.b x5)]) ([] : List (Prod Nat Blk))) ∧
 (∃ x6 : ByteArray, (∃ x7 : ByteArray, (∃ n13 : Int, (∃ x8 : ByteArray, (∃ n14 : Int, (∃ n15 : Int, (∃ n16 : Int, (∃ n17 : Int, (∃ x9 : Bool, ((ACalls Try.prog 61 [(AV.ag [(AV.i IntKind.i64 a), (AV.i IntKind.i64 b), (AV.i IntKind.i64 c), (AV.sl (Q.rowH l))]), (AV.ag [(AV.s (x).5), (AV.s (x).6)]), (AV.i IntKind.i64 (x).2), (AV.i IntKind.i64 (x).3)] ([] : List (Prod Nat Blk)) (AV.tup [(AV.ag (([(AV.s x6)] ++ ([(AV.s x7)] ++ ([] : List AV) : (List AV)) : (List AV)) ++ ([(AV.i IntKind.i64 n13)] ++ ([(AV.s x8)] ++ ([(AV.i IntKind.i64 n14)] ++ ([(AV.i IntKind.i64 n15)] ++ ([(AV.i IntKind.i64 n16)] ++ ([(AV.i IntKind.i64 n17)] ++ ([] : List AV) : (List AV)) : (List AV)) : (List AV)) : (List AV)) : (List AV)) : (List AV)) : (List AV))), (AV.b x9)]) ([] : List (Prod Nat Blk))) ∧
 (brP (Bool.and (Bool.and (strEq x2 x6) (Bool.and (strEq x3 x7) Bool.true)) (Bool.and (decide (n8 = (n13 : Int))) (Bool.and (strEq x4 x8) (Bool.and (decide (n9 = (n14 : Int))) (Bool.and (decide (n10 = (n15 : Int))) (Bool.and (decide (n11 = (n16 : Int))) (Bool.and (decide (n12 = (n17 : Int))) Bool.true))))))) (brP (x5 == x9) (∃ n18 : Int, ((ACalls Try.prog 20 [(AV.ag [(AV.i IntKind.i64 a), (AV.i IntKind.i64 b), (AV.i IntKind.i64 c), (AV.sl (Q.rowH l))]), (AV.s (x).7)] ([] : List (Prod Nat Blk)) (AV.i IntKind.i64 n18) ([] : List (Prod Nat Blk))) ∧
 (∃ n19 : Int, ((ACalls Try.prog 21 [(AV.ag [(AV.i IntKind.i64 a), (AV.i IntKind.i64 b), (AV.i IntKind.i64 c), (AV.sl (Q.rowH l))]), (AV.s (x).7)] ([] : List (Prod Nat Blk)) (AV.i IntKind.i64 n19) ([] : List (Prod Nat Blk))) ∧
 ((Bool.true = (Bool.true : Bool)) ∧
 (((AV.tup [(AV.ag [(AV.i IntKind.i64 a), (AV.i IntKind.i64 b), (AV.i IntKind.i64 c), (AV.sl (Q.rowH l))]), (AV.ag [(AV.i IntKind.i64 a), (AV.i IntKind.i64 b), (AV.i IntKind.i64 c), (AV.sl (Q.rowH l))]), (AV.b (decide (n18 = (n19 : Int))))]) = (r : AV)) ∧
 (([] : List (Prod Nat Blk)) = (([] : List (Prod Nat Blk)) : Heap)))))))) ((Bool.true = (Bool.true : Bool)) ∧
 (((AV.tup [(AV.ag [(AV.i IntKind.i64 a), (AV.i IntKind.i64 b), (AV.i IntKind.i64 c), (AV.sl (Q.rowH l))]), (AV.ag [(AV.i IntKind.i64 a), (AV.i IntKind.i64 b), (AV.i IntKind.i64 c), (AV.sl (Q.rowH l))]), (AV.b Bool.false)]) = (r : AV)) ∧
 (([] : List (Prod Nat Blk)) = (([] : List (Prod Nat Blk)) : Heap))))) ((Bool.true = (Bool.true : Bool)) ∧
 (((AV.tup [(AV.ag [(AV.i IntKind.i64 a), (AV.i IntKind.i64 b), (AV.i IntKind.i64 c), (AV.sl (Q.rowH l))]), (AV.ag [(AV.i IntKind.i64 a), (AV.i IntKind.i64 b), (AV.i IntKind.i64 c), (AV.sl (Q.rowH l))]), (AV.b Bool.false)]) = (r : AV)) ∧
 (([] : List (Prod Nat Blk)) = (([] : List (Prod Nat Blk)) : Heap)))))))))))))))))))))))))))))))))))))))))) (brP (decide ((x).1 = ((1 : Int) : Int))) (∃ n : Int, (∃ n1 : Int, (∃ n2 : Int, (∃ xs : (List (List AV)), (∃ n3 : Int, ((ACalls Try.prog 24 [(AV.ag [(AV.i IntKind.i64 a), (AV.i IntKind.i64 b), (AV.i IntKind.i64 c), (AV.sl (Q.rowH l))]), (AV.ag [(AV.s (x).5), (AV.s (x).6)]), (AV.i IntKind.i64 (x).2), (AV.s (x).7), (AV.i IntKind.i64 (x).3), (AV.i IntKind.i64 (x).4)] ([] : List (Prod Nat Blk)) (AV.tup [(AV.ag ([(AV.i IntKind.i64 n)] ++ ([(AV.i IntKind.i64 n1)] ++ ([(AV.i IntKind.i64 n2)] ++ ([(AV.sl xs)] ++ ([] : List AV) : (List AV)) : (List AV)) : (List AV)) : (List AV))), (AV.i IntKind.i64 n3)]) ([] : List (Prod Nat Blk))) ∧
 (∃ n4 : Int, (∃ n5 : Int, (∃ n6 : Int, (∃ xs1 : (List (List AV)), (∃ n7 : Int, ((ACalls Try.prog 56 [(AV.ag [(AV.i IntKind.i64 a), (AV.i IntKind.i64 b), (AV.i IntKind.i64 c), (AV.sl (Q.rowH l))]), (AV.ag [(AV.s (x).5), (AV.s (x).6)]), (AV.i IntKind.i64 (x).2), (AV.s (x).7), (AV.i IntKind.i64 (x).3), (AV.i IntKind.i64 (x).4)] ([] : List (Prod Nat Blk)) (AV.tup [(AV.ag ([(AV.i IntKind.i64 n4)] ++ ([(AV.i IntKind.i64 n5)] ++ ([(AV.i IntKind.i64 n6)] ++ ([(AV.sl xs1)] ++ ([] : List AV) : (List AV)) : (List AV)) : (List AV)) : (List AV))), (AV.i IntKind.i64 n7)]) ([] : List (Prod Nat Blk))) ∧
 (brP (!(decide (n3 = (n7 : Int)))) ((Bool.true = (Bool.true : Bool)) ∧
 (((AV.tup [(AV.ag [(AV.i IntKind.i64 a), (AV.i IntKind.i64 b), (AV.i IntKind.i64 c), (AV.sl (Q.rowH l))]), (AV.ag [(AV.i IntKind.i64 a), (AV.i IntKind.i64 b), (AV.i IntKind.i64 c), (AV.sl (Q.rowH l))]), (AV.b Bool.false)]) = (r : AV)) ∧
 (([] : List (Prod Nat Blk)) = (([] : List (Prod Nat Blk)) : Heap)))) (∃ x1 : Bool, ((ACalls Try.prog 12 [(AV.ag [(AV.i IntKind.i64 n), (AV.i IntKind.i64 n1), (AV.i IntKind.i64 n2), (AV.sl xs)]), (AV.ag [(AV.i IntKind.i64 n4), (AV.i IntKind.i64 n5), (AV.i IntKind.i64 n6), (AV.sl xs1)])] ([] : List (Prod Nat Blk)) (AV.b x1) ([] : List (Prod Nat Blk))) ∧
 (brP (!x1) ((Bool.true = (Bool.true : Bool)) ∧
 (((AV.tup [(AV.ag [(AV.i IntKind.i64 a), (AV.i IntKind.i64 b), (AV.i IntKind.i64 c), (AV.sl (Q.rowH l))]), (AV.ag [(AV.i IntKind.i64 a), (AV.i IntKind.i64 b), (AV.i IntKind.i64 c), (AV.sl (Q.rowH l))]), (AV.b Bool.false)]) = (r : AV)) ∧
 (([] : List (Prod Nat Blk)) = (([] : List (Prod Nat Blk)) : Heap)))) (brP (decide (n3 = ((0 : Int) : Int))) ((Bool.true = (Bool.true : Bool)) ∧
 (∃ x2 : ByteArray, (∃ x3 : ByteArray, (∃ n8 : Int, (∃ x4 : ByteArray, (∃ n9 : Int, (∃ n10 : Int, (∃ n11 : Int, (∃ n12 : Int, (∃ x5 : Bool, ((ACalls Try.prog 22 [(AV.ag [(AV.i IntKind.i64 n), (AV.i IntKind.i64 n1), (AV.i IntKind.i64 n2), (AV.sl xs)]), (AV.ag [(AV.s (x).5), (AV.s (x).6)]), (AV.i IntKind.i64 (x).2), (AV.i IntKind.i64 (x).3)] ([] : List (Prod Nat Blk)) (AV.tup [(AV.ag (([(AV.s x2)] ++ ([(AV.s x3)] ++ ([] : List AV) : (List AV)) : (List AV)) ++ ([(AV.i IntKind.i64 n8)] ++ ([(AV.s x4)] ++ ([(AV.i IntKind.i64 n9)] ++ ([(AV.i IntKind.i64 n10)] ++ ([(AV.i IntKind.i64 n11)] ++ ([(AV.i IntKind.i64 n12)] ++ ([] : List AV) : (List AV)) : (List AV)) : (List AV)) : (List AV)) : (List AV)) : (List AV)) : (List AV))), (AV.b x5)]) ([] : List (Prod Nat Blk))) ∧
 (∃ x6 : ByteArray, (∃ x7 : ByteArray, (∃ n13 : Int, (∃ x8 : ByteArray, (∃ n14 : Int, (∃ n15 : Int, (∃ n16 : Int, (∃ n17 : Int, (∃ x9 : Bool, ((ACalls Try.prog 61 [(AV.ag [(AV.i IntKind.i64 n4), (AV.i IntKind.i64 n5), (AV.i IntKind.i64 n6), (AV.sl xs1)]), (AV.ag [(AV.s (x).5), (AV.s (x).6)]), (AV.i IntKind.i64 (x).2), (AV.i IntKind.i64 (x).3)] ([] : List (Prod Nat Blk)) (AV.tup [(AV.ag (([(AV.s x6)] ++ ([(AV.s x7)] ++ ([] : List AV) : (List AV)) : (List AV)) ++ ([(AV.i IntKind.i64 n13)] ++ ([(AV.s x8)] ++ ([(AV.i IntKind.i64 n14)] ++ ([(AV.i IntKind.i64 n15)] ++ ([(AV.i IntKind.i64 n16)] ++ ([(AV.i IntKind.i64 n17)] ++ ([] : List AV) : (List AV)) : (List AV)) : (List AV)) : (List AV)) : (List AV)) : (List AV)) : (List AV))), (AV.b x9)]) ([] : List (Prod Nat Blk))) ∧
 (brP (Bool.and (Bool.and (strEq x2 x6) (Bool.and (strEq x3 x7) Bool.true)) (Bool.and (decide (n8 = (n13 : Int))) (Bool.and (strEq x4 x8) (Bool.and (decide (n9 = (n14 : Int))) (Bool.and (decide (n10 = (n15 : Int))) (Bool.and (decide (n11 = (n16 : Int))) (Bool.and (decide (n12 = (n17 : Int))) Bool.true))))))) (brP (x5 == x9) (∃ n18 : Int, ((ACalls Try.prog 20 [(AV.ag [(AV.i IntKind.i64 n), (AV.i IntKind.i64 n1), (AV.i IntKind.i64 n2), (AV.sl xs)]), (AV.s (x).7)] ([] : List (Prod Nat Blk)) (AV.i IntKind.i64 n18) ([] : List (Prod Nat Blk))) ∧
 (∃ n19 : Int, ((ACalls Try.prog 21 [(AV.ag [(AV.i IntKind.i64 n4), (AV.i IntKind.i64 n5), (AV.i IntKind.i64 n6), (AV.sl xs1)]), (AV.s (x).7)] ([] : List (Prod Nat Blk)) (AV.i IntKind.i64 n19) ([] : List (Prod Nat Blk))) ∧
 ((Bool.true = (Bool.true : Bool)) ∧
 (((AV.tup [(AV.ag [(AV.i IntKind.i64 n), (AV.i IntKind.i64 n1), (AV.i IntKind.i64 n2), (AV.sl xs)]), (AV.ag [(AV.i IntKind.i64 n4), (AV.i IntKind.i64 n5), (AV.i IntKind.i64 n6), (AV.sl xs1)]), (AV.b (decide (n18 = (n19 : Int))))]) = (r : AV)) ∧
 (([] : List (Prod Nat Blk)) = (([] : List (Prod Nat Blk)) : Heap)))))))) ((Bool.true = (Bool.true : Bool)) ∧
 (((AV.tup [(AV.ag [(AV.i IntKind.i64 n), (AV.i IntKind.i64 n1), (AV.i IntKind.i64 n2), (AV.sl xs)]), (AV.ag [(AV.i IntKind.i64 n4), (AV.i IntKind.i64 n5), (AV.i IntKind.i64 n6), (AV.sl xs1)]), (AV.b Bool.false)]) = (r : AV)) ∧
 (([] : List (Prod Nat Blk)) = (([] : List (Prod Nat Blk)) : Heap))))) ((Bool.true = (Bool.true : Bool)) ∧
 (((AV.tup [(AV.ag [(AV.i IntKind.i64 n), (AV.i IntKind.i64 n1), (AV.i IntKind.i64 n2), (AV.sl xs)]), (AV.ag [(AV.i IntKind.i64 n4), (AV.i IntKind.i64 n5), (AV.i IntKind.i64 n6), (AV.sl xs1)]), (AV.b Bool.false)]) = (r : AV)) ∧
 (([] : List (Prod Nat Blk)) = (([] : List (Prod Nat Blk)) : Heap)))))))))))))))))))))))))) (∃ x2 : ByteArray, (∃ x3 : ByteArray, (∃ n8 : Int, (∃ x4 : ByteArray, (∃ n9 : Int, (∃ n10 : Int, (∃ n11 : Int, (∃ n12 : Int, (∃ x5 : Bool, ((ACalls Try.prog 22 [(AV.ag [(AV.i IntKind.i64 a), (AV.i IntKind.i64 b), (AV.i IntKind.i64 c), (AV.sl (Q.rowH l))]), (AV.ag [(AV.s (x).5), (AV.s (x).6)]), (AV.i IntKind.i64 (x).2), (AV.i IntKind.i64 (x).3)] ([] : List (Prod Nat Blk)) (AV.tup [(AV.ag (([(AV.s x2)] ++ ([(AV.s x3)] ++ ([] : List AV) : (List AV)) : (List AV)) ++ ([(AV.i IntKind.i64 n8)] ++ ([(AV.s x4)] ++ ([(AV.i IntKind.i64 n9)] ++ ([(AV.i IntKind.i64 n10)] ++ ([(AV.i IntKind.i64 n11)] ++ ([(AV.i IntKind.i64 n12)] ++ ([] : List AV) : (List AV)) : (List AV)) : (List AV)) : (List AV)) : (List AV)) : (List AV)) : (List AV))), (AV.b x5)]) ([] : List (Prod Nat Blk))) ∧
 (∃ x6 : ByteArray, (∃ x7 : ByteArray, (∃ n13 : Int, (∃ x8 : ByteArray, (∃ n14 : Int, (∃ n15 : Int, (∃ n16 : Int, (∃ n17 : Int, (∃ x9 : Bool, ((ACalls Try.prog 61 [(AV.ag [(AV.i IntKind.i64 a), (AV.i IntKind.i64 b), (AV.i IntKind.i64 c), (AV.sl (Q.rowH l))]), (AV.ag [(AV.s (x).5), (AV.s (x).6)]), (AV.i IntKind.i64 (x).2), (AV.i IntKind.i64 (x).3)] ([] : List (Prod Nat Blk)) (AV.tup [(AV.ag (([(AV.s x6)] ++ ([(AV.s x7)] ++ ([] : List AV) : (List AV)) : (List AV)) ++ ([(AV.i IntKind.i64 n13)] ++ ([(AV.s x8)] ++ ([(AV.i IntKind.i64 n14)] ++ ([(AV.i IntKind.i64 n15)] ++ ([(AV.i IntKind.i64 n16)] ++ ([(AV.i IntKind.i64 n17)] ++ ([] : List AV) : (List AV)) : (List AV)) : (List AV)) : (List AV)) : (List AV)) : (List AV)) : (List AV))), (AV.b x9)]) ([] : List (Prod Nat Blk))) ∧
 (brP (Bool.and (Bool.and (strEq x2 x6) (Bool.and (strEq x3 x7) Bool.true)) (Bool.and (decide (n8 = (n13 : Int))) (Bool.and (strEq x4 x8) (Bool.and (decide (n9 = (n14 : Int))) (Bool.and (decide (n10 = (n15 : Int))) (Bool.and (decide (n11 = (n16 : Int))) (Bool.and (decide (n12 = (n17 : Int))) Bool.true))))))) (brP (x5 == x9) (∃ n18 : Int, ((ACalls Try.prog 20 [(AV.ag [(AV.i IntKind.i64 a), (AV.i IntKind.i64 b), (AV.i IntKind.i64 c), (AV.sl (Q.rowH l))]), (AV.s (x).7)] ([] : List (Prod Nat Blk)) (AV.i IntKind.i64 n18) ([] : List (Prod Nat Blk))) ∧
 (∃ n19 : Int, ((ACalls Try.prog 21 [(AV.ag [(AV.i IntKind.i64 a), (AV.i IntKind.i64 b), (AV.i IntKind.i64 c), (AV.sl (Q.rowH l))]), (AV.s (x).7)] ([] : List (Prod Nat Blk)) (AV.i IntKind.i64 n19) ([] : List (Prod Nat Blk))) ∧
 ((Bool.true = (Bool.true : Bool)) ∧
 (((AV.tup [(AV.ag [(AV.i IntKind.i64 a), (AV.i IntKind.i64 b), (AV.i IntKind.i64 c), (AV.sl (Q.rowH l))]), (AV.ag [(AV.i IntKind.i64 a), (AV.i IntKind.i64 b), (AV.i IntKind.i64 c), (AV.sl (Q.rowH l))]), (AV.b (decide (n18 = (n19 : Int))))]) = (r : AV)) ∧
 (([] : List (Prod Nat Blk)) = (([] : List (Prod Nat Blk)) : Heap)))))))) ((Bool.true = (Bool.true : Bool)) ∧
 (((AV.tup [(AV.ag [(AV.i IntKind.i64 a), (AV.i IntKind.i64 b), (AV.i IntKind.i64 c), (AV.sl (Q.rowH l))]), (AV.ag [(AV.i IntKind.i64 a), (AV.i IntKind.i64 b), (AV.i IntKind.i64 c), (AV.sl (Q.rowH l))]), (AV.b Bool.false)]) = (r : AV)) ∧
 (([] : List (Prod Nat Blk)) = (([] : List (Prod Nat Blk)) : Heap))))) ((Bool.true = (Bool.true : Bool)) ∧
 (((AV.tup [(AV.ag [(AV.i IntKind.i64 a), (AV.i IntKind.i64 b), (AV.i IntKind.i64 c), (AV.sl (Q.rowH l))]), (AV.ag [(AV.i IntKind.i64 a), (AV.i IntKind.i64 b), (AV.i IntKind.i64 c), (AV.sl (Q.rowH l))]), (AV.b Bool.false)]) = (r : AV)) ∧
 (([] : List (Prod Nat Blk)) = (([] : List (Prod Nat Blk)) : Heap)))))))))))))))))))))))))))))))))))))))))) (brP (decide ((x).1 = ((2 : Int) : Int))) (∃ n : Int, (∃ n1 : Int, (∃ n2 : Int, (∃ xs : (List (List AV)), (∃ n3 : Int, ((ACalls Try.prog 24 [(AV.ag [(AV.i IntKind.i64 a), (AV.i IntKind.i64 b), (AV.i IntKind.i64 c), (AV.sl (Q.rowH l))]), (AV.ag [(AV.s (x).5), (AV.s (x).6)]), (AV.i IntKind.i64 (x).2), (AV.s (x).7), (AV.i IntKind.i64 (x).3), (AV.i IntKind.i64 (x).4)] ([] : List (Prod Nat Blk)) (AV.tup [(AV.ag ([(AV.i IntKind.i64 n)] ++ ([(AV.i IntKind.i64 n1)] ++ ([(AV.i IntKind.i64 n2)] ++ ([(AV.sl xs)] ++ ([] : List AV) : (List AV)) : (List AV)) : (List AV)) : (List AV))), (AV.i IntKind.i64 n3)]) ([] : List (Prod Nat Blk))) ∧
 (∃ n4 : Int, (∃ n5 : Int, (∃ n6 : Int, (∃ xs1 : (List (List AV)), (∃ n7 : Int, ((ACalls Try.prog 56 [(AV.ag [(AV.i IntKind.i64 a), (AV.i IntKind.i64 b), (AV.i IntKind.i64 c), (AV.sl (Q.rowH l))]), (AV.ag [(AV.s (x).5), (AV.s (x).6)]), (AV.i IntKind.i64 (x).2), (AV.s (x).7), (AV.i IntKind.i64 (x).3), (AV.i IntKind.i64 (x).4)] ([] : List (Prod Nat Blk)) (AV.tup [(AV.ag ([(AV.i IntKind.i64 n4)] ++ ([(AV.i IntKind.i64 n5)] ++ ([(AV.i IntKind.i64 n6)] ++ ([(AV.sl xs1)] ++ ([] : List AV) : (List AV)) : (List AV)) : (List AV)) : (List AV))), (AV.i IntKind.i64 n7)]) ([] : List (Prod Nat Blk))) ∧
 (brP (!(decide (n3 = (n7 : Int)))) ((Bool.true = (Bool.true : Bool)) ∧
 (((AV.tup [(AV.ag [(AV.i IntKind.i64 a), (AV.i IntKind.i64 b), (AV.i IntKind.i64 c), (AV.sl (Q.rowH l))]), (AV.ag [(AV.i IntKind.i64 a), (AV.i IntKind.i64 b), (AV.i IntKind.i64 c), (AV.sl (Q.rowH l))]), (AV.b Bool.false)]) = (r : AV)) ∧
 (([] : List (Prod Nat Blk)) = (([] : List (Prod Nat Blk)) : Heap)))) (∃ x1 : Bool, ((ACalls Try.prog 12 [(AV.ag [(AV.i IntKind.i64 n), (AV.i IntKind.i64 n1), (AV.i IntKind.i64 n2), (AV.sl xs)]), (AV.ag [(AV.i IntKind.i64 n4), (AV.i IntKind.i64 n5), (AV.i IntKind.i64 n6), (AV.sl xs1)])] ([] : List (Prod Nat Blk)) (AV.b x1) ([] : List (Prod Nat Blk))) ∧
 (brP (!x1) ((Bool.true = (Bool.true : Bool)) ∧
 (((AV.tup [(AV.ag [(AV.i IntKind.i64 a), (AV.i IntKind.i64 b), (AV.i IntKind.i64 c), (AV.sl (Q.rowH l))]), (AV.ag [(AV.i IntKind.i64 a), (AV.i IntKind.i64 b), (AV.i IntKind.i64 c), (AV.sl (Q.rowH l))]), (AV.b Bool.false)]) = (r : AV)) ∧
 (([] : List (Prod Nat Blk)) = (([] : List (Prod Nat Blk)) : Heap)))) (brP (decide (n3 = ((0 : Int) : Int))) ((Bool.true = (Bool.true : Bool)) ∧
 (∃ x2 : ByteArray, (∃ x3 : ByteArray, (∃ n8 : Int, (∃ x4 : ByteArray, (∃ n9 : Int, (∃ n10 : Int, (∃ n11 : Int, (∃ n12 : Int, (∃ x5 : Bool, ((ACalls Try.prog 22 [(AV.ag [(AV.i IntKind.i64 n), (AV.i IntKind.i64 n1), (AV.i IntKind.i64 n2), (AV.sl xs)]), (AV.ag [(AV.s (x).5), (AV.s (x).6)]), (AV.i IntKind.i64 (x).2), (AV.i IntKind.i64 (x).3)] ([] : List (Prod Nat Blk)) (AV.tup [(AV.ag (([(AV.s x2)] ++ ([(AV.s x3)] ++ ([] : List AV) : (List AV)) : (List AV)) ++ ([(AV.i IntKind.i64 n8)] ++ ([(AV.s x4)] ++ ([(AV.i IntKind.i64 n9)] ++ ([(AV.i IntKind.i64 n10)] ++ ([(AV.i IntKind.i64 n11)] ++ ([(AV.i IntKind.i64 n12)] ++ ([] : List AV) : (List AV)) : (List AV)) : (List AV)) : (List AV)) : (List AV)) : (List AV)) : (List AV))), (AV.b x5)]) ([] : List (Prod Nat Blk))) ∧
 (∃ x6 : ByteArray, (∃ x7 : ByteArray, (∃ n13 : Int, (∃ x8 : ByteArray, (∃ n14 : Int, (∃ n15 : Int, (∃ n16 : Int, (∃ n17 : Int, (∃ x9 : Bool, ((ACalls Try.prog 61 [(AV.ag [(AV.i IntKind.i64 n4), (AV.i IntKind.i64 n5), (AV.i IntKind.i64 n6), (AV.sl xs1)]), (AV.ag [(AV.s (x).5), (AV.s (x).6)]), (AV.i IntKind.i64 (x).2), (AV.i IntKind.i64 (x).3)] ([] : List (Prod Nat Blk)) (AV.tup [(AV.ag (([(AV.s x6)] ++ ([(AV.s x7)] ++ ([] : List AV) : (List AV)) : (List AV)) ++ ([(AV.i IntKind.i64 n13)] ++ ([(AV.s x8)] ++ ([(AV.i IntKind.i64 n14)] ++ ([(AV.i IntKind.i64 n15)] ++ ([(AV.i IntKind.i64 n16)] ++ ([(AV.i IntKind.i64 n17)] ++ ([] : List AV) : (List AV)) : (List AV)) : (List AV)) : (List AV)) : (List AV)) : (List AV)) : (List AV))), (AV.b x9)]) ([] : List (Prod Nat Blk))) ∧
 (brP (Bool.and (Bool.and (strEq x2 x6) (Bool.and (strEq x3 x7) Bool.true)) (Bool.and (decide (n8 = (n13 : Int))) (Bool.and (strEq x4 x8) (Bool.and (decide (n9 = (n14 : Int))) (Bool.and (decide (n10 = (n15 : Int))) (Bool.and (decide (n11 = (n16 : Int))) (Bool.and (decide (n12 = (n17 : Int))) Bool.true))))))) (brP (x5 == x9) (∃ n18 : Int, ((ACalls Try.prog 20 [(AV.ag [(AV.i IntKind.i64 n), (AV.i IntKind.i64 n1), (AV.i IntKind.i64 n2), (AV.sl xs)]), (AV.s (x).7)] ([] : List (Prod Nat Blk)) (AV.i IntKind.i64 n18) ([] : List (Prod Nat Blk))) ∧
 (∃ n19 : Int, ((ACalls Try.prog 21 [(AV.ag [(AV.i IntKind.i64 n4), (AV.i IntKind.i64 n5), (AV.i IntKind.i64 n6), (AV.sl xs1)]), (AV.s (x).7)] ([] : List (Prod Nat Blk)) (AV.i IntKind.i64 n19) ([] : List (Prod Nat Blk))) ∧
 ((Bool.true = (Bool.true : Bool)) ∧
 (((AV.tup [(AV.ag [(AV.i IntKind.i64 n), (AV.i IntKind.i64 n1), (AV.i IntKind.i64 n2), (AV.sl xs)]), (AV.ag [(AV.i IntKind.i64 n4), (AV.i IntKind.i64 n5), (AV.i IntKind.i64 n6), (AV.sl xs1)]), (AV.b (decide (n18 = (n19 : Int))))]) = (r : AV)) ∧
 (([] : List (Prod Nat Blk)) = (([] : List (Prod Nat Blk)) : Heap)))))))) ((Bool.true = (Bool.true : Bool)) ∧
 (((AV.tup [(AV.ag [(AV.i IntKind.i64 n), (AV.i IntKind.i64 n1), (AV.i IntKind.i64 n2), (AV.sl xs)]), (AV.ag [(AV.i IntKind.i64 n4), (AV.i IntKind.i64 n5), (AV.i IntKind.i64 n6), (AV.sl xs1)]), (AV.b Bool.false)]) = (r : AV)) ∧
 (([] : List (Prod Nat Blk)) = (([] : List (Prod Nat Blk)) : Heap))))) ((Bool.true = (Bool.true : Bool)) ∧
 (((AV.tup [(AV.ag [(AV.i IntKind.i64 n), (AV.i IntKind.i64 n1), (AV.i IntKind.i64 n2), (AV.sl xs)]), (AV.ag [(AV.i IntKind.i64 n4), (AV.i IntKind.i64 n5), (AV.i IntKind.i64 n6), (AV.sl xs1)]), (AV.b Bool.false)]) = (r : AV)) ∧
 (([] : List (Prod Nat Blk)) = (([] : List (Prod Nat Blk)) : Heap)))))))))))))))))))))))))) (∃ x2 : ByteArray, (∃ x3 : ByteArray, (∃ n8 : Int, (∃ x4 : ByteArray, (∃ n9 : Int, (∃ n10 : Int, (∃ n11 : Int, (∃ n12 : Int, (∃ x5 : Bool, ((ACalls Try.prog 22 [(AV.ag [(AV.i IntKind.i64 a), (AV.i IntKind.i64 b), (AV.i IntKind.i64 c), (AV.sl (Q.rowH l))]), (AV.ag [(AV.s (x).5), (AV.s (x).6)]), (AV.i IntKind.i64 (x).2), (AV.i IntKind.i64 (x).3)] ([] : List (Prod Nat Blk)) (AV.tup [(AV.ag (([(AV.s x2)] ++ ([(AV.s x3)] ++ ([] : List AV) : (List AV)) : (List AV)) ++ ([(AV.i IntKind.i64 n8)] ++ ([(AV.s x4)] ++ ([(AV.i IntKind.i64 n9)] ++ ([(AV.i IntKind.i64 n10)] ++ ([(AV.i IntKind.i64 n11)] ++ ([(AV.i IntKind.i64 n12)] ++ ([] : List AV) : (List AV)) : (List AV)) : (List AV)) : (List AV)) : (List AV)) : (List AV)) : (List AV))), (AV.b x5)]) ([] : List (Prod Nat Blk))) ∧
 (∃ x6 : ByteArray, (∃ x7 : ByteArray, (∃ n13 : Int, (∃ x8 : ByteArray, (∃ n14 : Int, (∃ n15 : Int, (∃ n16 : Int, (∃ n17 : Int, (∃ x9 : Bool, ((ACalls Try.prog 61 [(AV.ag [(AV.i IntKind.i64 a), (AV.i IntKind.i64 b), (AV.i IntKind.i64 c), (AV.sl (Q.rowH l))]), (AV.ag [(AV.s (x).5), (AV.s (x).6)]), (AV.i IntKind.i64 (x).2), (AV.i IntKind.i64 (x).3)] ([] : List (Prod Nat Blk)) (AV.tup [(AV.ag (([(AV.s x6)] ++ ([(AV.s x7)] ++ ([] : List AV) : (List AV)) : (List AV)) ++ ([(AV.i IntKind.i64 n13)] ++ ([(AV.s x8)] ++ ([(AV.i IntKind.i64 n14)] ++ ([(AV.i IntKind.i64 n15)] ++ ([(AV.i IntKind.i64 n16)] ++ ([(AV.i IntKind.i64 n17)] ++ ([] : List AV) : (List AV)) : (List AV)) : (List AV)) : (List AV)) : (List AV)) : (List AV)) : (List AV))), (AV.b x9)]) ([] : List (Prod Nat Blk))) ∧
 (brP (Bool.and (Bool.and (strEq x2 x6) (Bool.and (strEq x3 x7) Bool.true)) (Bool.and (decide (n8 = (n13 : Int))) (Bool.and (strEq x4 x8) (Bool.and (decide (n9 = (n14 : Int))) (Bool.and (decide (n10 = (n15 : Int))) (Bool.and (decide (n11 = (n16 : Int))) (Bool.and (decide (n12 = (n17 : Int))) Bool.true))))))) (brP (x5 == x9) (∃ n18 : Int, ((ACalls Try.prog 20 [(AV.ag [(AV.i IntKind.i64 a), (AV.i IntKind.i64 b), (AV.i IntKind.i64 c), (AV.sl (Q.rowH l))]), (AV.s (x).7)] ([] : List (Prod Nat Blk)) (AV.i IntKind.i64 n18) ([] : List (Prod Nat Blk))) ∧
 (∃ n19 : Int, ((ACalls Try.prog 21 [(AV.ag [(AV.i IntKind.i64 a), (AV.i IntKind.i64 b), (AV.i IntKind.i64 c), (AV.sl (Q.rowH l))]), (AV.s (x).7)] ([] : List (Prod Nat Blk)) (AV.i IntKind.i64 n19) ([] : List (Prod Nat Blk))) ∧
 ((Bool.true = (Bool.true : Bool)) ∧
 (((AV.tup [(AV.ag [(AV.i IntKind.i64 a), (AV.i IntKind.i64 b), (AV.i IntKind.i64 c), (AV.sl (Q.rowH l))]), (AV.ag [(AV.i IntKind.i64 a), (AV.i IntKind.i64 b), (AV.i IntKind.i64 c), (AV.sl (Q.rowH l))]), (AV.b (decide (n18 = (n19 : Int))))]) = (r : AV)) ∧
 (([] : List (Prod Nat Blk)) = (([] : List (Prod Nat Blk)) : Heap)))))))) ((Bool.true = (Bool.true : Bool)) ∧
 (((AV.tup [(AV.ag [(AV.i IntKind.i64 a), (AV.i IntKind.i64 b), (AV.i IntKind.i64 c), (AV.sl (Q.rowH l))]), (AV.ag [(AV.i IntKind.i64 a), (AV.i IntKind.i64 b), (AV.i IntKind.i64 c), (AV.sl (Q.rowH l))]), (AV.b Bool.false)]) = (r : AV)) ∧
 (([] : List (Prod Nat Blk)) = (([] : List (Prod Nat Blk)) : Heap))))) ((Bool.true = (Bool.true : Bool)) ∧
 (((AV.tup [(AV.ag [(AV.i IntKind.i64 a), (AV.i IntKind.i64 b), (AV.i IntKind.i64 c), (AV.sl (Q.rowH l))]), (AV.ag [(AV.i IntKind.i64 a), (AV.i IntKind.i64 b), (AV.i IntKind.i64 c), (AV.sl (Q.rowH l))]), (AV.b Bool.false)]) = (r : AV)) ∧
 (([] : List (Prod Nat Blk)) = (([] : List (Prod Nat Blk)) : Heap)))))))))))))))))))))))))))))))))))))))))) (brP (decide ((x).1 = ((3 : Int) : Int))) (∃ n : Int, (∃ n1 : Int, (∃ n2 : Int, (∃ xs : (List (List AV)), (∃ n3 : Int, ((ACalls Try.prog 31 [(AV.ag [(AV.i IntKind.i64 a), (AV.i IntKind.i64 b), (AV.i IntKind.i64 c), (AV.sl (Q.rowH l))]), (AV.ag [(AV.s (x).5), (AV.s (x).6)]), (AV.i IntKind.i64 (x).2), (AV.i IntKind.i64 (x).3), (AV.i IntKind.i64 (x).4)] ([] : List (Prod Nat Blk)) (AV.tup [(AV.ag ([(AV.i IntKind.i64 n)] ++ ([(AV.i IntKind.i64 n1)] ++ ([(AV.i IntKind.i64 n2)] ++ ([(AV.sl xs)] ++ ([] : List AV) : (List AV)) : (List AV)) : (List AV)) : (List AV))), (AV.i IntKind.i64 n3)]) ([] : List (Prod Nat Blk))) ∧
 (∃ n4 : Int, (∃ n5 : Int, (∃ n6 : Int, (∃ xs1 : (List (List AV)), (∃ n7 : Int, ((ACalls Try.prog 57 [(AV.ag [(AV.i IntKind.i64 a), (AV.i IntKind.i64 b), (AV.i IntKind.i64 c), (AV.sl (Q.rowH l))]), (AV.ag [(AV.s (x).5), (AV.s (x).6)]), (AV.i IntKind.i64 (x).2), (AV.i IntKind.i64 (x).3), (AV.i IntKind.i64 (x).4)] ([] : List (Prod Nat Blk)) (AV.tup [(AV.ag ([(AV.i IntKind.i64 n4)] ++ ([(AV.i IntKind.i64 n5)] ++ ([(AV.i IntKind.i64 n6)] ++ ([(AV.sl xs1)] ++ ([] : List AV) : (List AV)) : (List AV)) : (List AV)) : (List AV))), (AV.i IntKind.i64 n7)]) ([] : List (Prod Nat Blk))) ∧
 (brP (!(decide (n3 = (n7 : Int)))) ((Bool.true = (Bool.true : Bool)) ∧
 (((AV.tup [(AV.ag [(AV.i IntKind.i64 a), (AV.i IntKind.i64 b), (AV.i IntKind.i64 c), (AV.sl (Q.rowH l))]), (AV.ag [(AV.i IntKind.i64 a), (AV.i IntKind.i64 b), (AV.i IntKind.i64 c), (AV.sl (Q.rowH l))]), (AV.b Bool.false)]) = (r : AV)) ∧
 (([] : List (Prod Nat Blk)) = (([] : List (Prod Nat Blk)) : Heap)))) (∃ x1 : Bool, ((ACalls Try.prog 12 [(AV.ag [(AV.i IntKind.i64 n), (AV.i IntKind.i64 n1), (AV.i IntKind.i64 n2), (AV.sl xs)]), (AV.ag [(AV.i IntKind.i64 n4), (AV.i IntKind.i64 n5), (AV.i IntKind.i64 n6), (AV.sl xs1)])] ([] : List (Prod Nat Blk)) (AV.b x1) ([] : List (Prod Nat Blk))) ∧
 (brP (!x1) ((Bool.true = (Bool.true : Bool)) ∧
 (((AV.tup [(AV.ag [(AV.i IntKind.i64 a), (AV.i IntKind.i64 b), (AV.i IntKind.i64 c), (AV.sl (Q.rowH l))]), (AV.ag [(AV.i IntKind.i64 a), (AV.i IntKind.i64 b), (AV.i IntKind.i64 c), (AV.sl (Q.rowH l))]), (AV.b Bool.false)]) = (r : AV)) ∧
 (([] : List (Prod Nat Blk)) = (([] : List (Prod Nat Blk)) : Heap)))) (brP (decide (n3 = ((0 : Int) : Int))) ((Bool.true = (Bool.true : Bool)) ∧
 (∃ x2 : ByteArray, (∃ x3 : ByteArray, (∃ n8 : Int, (∃ x4 : ByteArray, (∃ n9 : Int, (∃ n10 : Int, (∃ n11 : Int, (∃ n12 : Int, (∃ x5 : Bool, ((ACalls Try.prog 22 [(AV.ag [(AV.i IntKind.i64 n), (AV.i IntKind.i64 n1), (AV.i IntKind.i64 n2), (AV.sl xs)]), (AV.ag [(AV.s (x).5), (AV.s (x).6)]), (AV.i IntKind.i64 (x).2), (AV.i IntKind.i64 (x).3)] ([] : List (Prod Nat Blk)) (AV.tup [(AV.ag (([(AV.s x2)] ++ ([(AV.s x3)] ++ ([] : List AV) : (List AV)) : (List AV)) ++ ([(AV.i IntKind.i64 n8)] ++ ([(AV.s x4)] ++ ([(AV.i IntKind.i64 n9)] ++ ([(AV.i IntKind.i64 n10)] ++ ([(AV.i IntKind.i64 n11)] ++ ([(AV.i IntKind.i64 n12)] ++ ([] : List AV) : (List AV)) : (List AV)) : (List AV)) : (List AV)) : (List AV)) : (List AV)) : (List AV))), (AV.b x5)]) ([] : List (Prod Nat Blk))) ∧
 (∃ x6 : ByteArray, (∃ x7 : ByteArray, (∃ n13 : Int, (∃ x8 : ByteArray, (∃ n14 : Int, (∃ n15 : Int, (∃ n16 : Int, (∃ n17 : Int, (∃ x9 : Bool, ((ACalls Try.prog 61 [(AV.ag [(AV.i IntKind.i64 n4), (AV.i IntKind.i64 n5), (AV.i IntKind.i64 n6), (AV.sl xs1)]), (AV.ag [(AV.s (x).5), (AV.s (x).6)]), (AV.i IntKind.i64 (x).2), (AV.i IntKind.i64 (x).3)] ([] : List (Prod Nat Blk)) (AV.tup [(AV.ag (([(AV.s x6)] ++ ([(AV.s x7)] ++ ([] : List AV) : (List AV)) : (List AV)) ++ ([(AV.i IntKind.i64 n13)] ++ ([(AV.s x8)] ++ ([(AV.i IntKind.i64 n14)] ++ ([(AV.i IntKind.i64 n15)] ++ ([(AV.i IntKind.i64 n16)] ++ ([(AV.i IntKind.i64 n17)] ++ ([] : List AV) : (List AV)) : (List AV)) : (List AV)) : (List AV)) : (List AV)) : (List AV)) : (List AV))), (AV.b x9)]) ([] : List (Prod Nat Blk))) ∧
 (brP (Bool.and (Bool.and (strEq x2 x6) (Bool.and (strEq x3 x7) Bool.true)) (Bool.and (decide (n8 = (n13 : Int))) (Bool.and (strEq x4 x8) (Bool.and (decide (n9 = (n14 : Int))) (Bool.and (decide (n10 = (n15 : Int))) (Bool.and (decide (n11 = (n16 : Int))) (Bool.and (decide (n12 = (n17 : Int))) Bool.true))))))) (brP (x5 == x9) (∃ n18 : Int, ((ACalls Try.prog 20 [(AV.ag [(AV.i IntKind.i64 n), (AV.i IntKind.i64 n1), (AV.i IntKind.i64 n2), (AV.sl xs)]), (AV.s (x).7)] ([] : List (Prod Nat Blk)) (AV.i IntKind.i64 n18) ([] : List (Prod Nat Blk))) ∧
 (∃ n19 : Int, ((ACalls Try.prog 21 [(AV.ag [(AV.i IntKind.i64 n4), (AV.i IntKind.i64 n5), (AV.i IntKind.i64 n6), (AV.sl xs1)]), (AV.s (x).7)] ([] : List (Prod Nat Blk)) (AV.i IntKind.i64 n19) ([] : List (Prod Nat Blk))) ∧
 ((Bool.true = (Bool.true : Bool)) ∧
 (((AV.tup [(AV.ag [(AV.i IntKind.i64 n), (AV.i IntKind.i64 n1), (AV.i IntKind.i64 n2), (AV.sl xs)]), (AV.ag [(AV.i IntKind.i64 n4), (AV.i IntKind.i64 n5), (AV.i IntKind.i64 n6), (AV.sl xs1)]), (AV.b (decide (n18 = (n19 : Int))))]) = (r : AV)) ∧
 (([] : List (Prod Nat Blk)) = (([] : List (Prod Nat Blk)) : Heap)))))))) ((Bool.true = (Bool.true : Bool)) ∧
 (((AV.tup [(AV.ag [(AV.i IntKind.i64 n), (AV.i IntKind.i64 n1), (AV.i IntKind.i64 n2), (AV.sl xs)]), (AV.ag [(AV.i IntKind.i64 n4), (AV.i IntKind.i64 n5), (AV.i IntKind.i64 n6), (AV.sl xs1)]), (AV.b Bool.false)]) = (r : AV)) ∧
 (([] : List (Prod Nat Blk)) = (([] : List (Prod Nat Blk)) : Heap))))) ((Bool.true = (Bool.true : Bool)) ∧
 (((AV.tup [(AV.ag [(AV.i IntKind.i64 n), (AV.i IntKind.i64 n1), (AV.i IntKind.i64 n2), (AV.sl xs)]), (AV.ag [(AV.i IntKind.i64 n4), (AV.i IntKind.i64 n5), (AV.i IntKind.i64 n6), (AV.sl xs1)]), (AV.b Bool.false)]) = (r : AV)) ∧
 (([] : List (Prod Nat Blk)) = (([] : List (Prod Nat Blk)) : Heap)))))))))))))))))))))))))) (∃ x2 : ByteArray, (∃ x3 : ByteArray, (∃ n8 : Int, (∃ x4 : ByteArray, (∃ n9 : Int, (∃ n10 : Int, (∃ n11 : Int, (∃ n12 : Int, (∃ x5 : Bool, ((ACalls Try.prog 22 [(AV.ag [(AV.i IntKind.i64 a), (AV.i IntKind.i64 b), (AV.i IntKind.i64 c), (AV.sl (Q.rowH l))]), (AV.ag [(AV.s (x).5), (AV.s (x).6)]), (AV.i IntKind.i64 (x).2), (AV.i IntKind.i64 (x).3)] ([] : List (Prod Nat Blk)) (AV.tup [(AV.ag (([(AV.s x2)] ++ ([(AV.s x3)] ++ ([] : List AV) : (List AV)) : (List AV)) ++ ([(AV.i IntKind.i64 n8)] ++ ([(AV.s x4)] ++ ([(AV.i IntKind.i64 n9)] ++ ([(AV.i IntKind.i64 n10)] ++ ([(AV.i IntKind.i64 n11)] ++ ([(AV.i IntKind.i64 n12)] ++ ([] : List AV) : (List AV)) : (List AV)) : (List AV)) : (List AV)) : (List AV)) : (List AV)) : (List AV))), (AV.b x5)]) ([] : List (Prod Nat Blk))) ∧
 (∃ x6 : ByteArray, (∃ x7 : ByteArray, (∃ n13 : Int, (∃ x8 : ByteArray, (∃ n14 : Int, (∃ n15 : Int, (∃ n16 : Int, (∃ n17 : Int, (∃ x9 : Bool, ((ACalls Try.prog 61 [(AV.ag [(AV.i IntKind.i64 a), (AV.i IntKind.i64 b), (AV.i IntKind.i64 c), (AV.sl (Q.rowH l))]), (AV.ag [(AV.s (x).5), (AV.s (x).6)]), (AV.i IntKind.i64 (x).2), (AV.i IntKind.i64 (x).3)] ([] : List (Prod Nat Blk)) (AV.tup [(AV.ag (([(AV.s x6)] ++ ([(AV.s x7)] ++ ([] : List AV) : (List AV)) : (List AV)) ++ ([(AV.i IntKind.i64 n13)] ++ ([(AV.s x8)] ++ ([(AV.i IntKind.i64 n14)] ++ ([(AV.i IntKind.i64 n15)] ++ ([(AV.i IntKind.i64 n16)] ++ ([(AV.i IntKind.i64 n17)] ++ ([] : List AV) : (List AV)) : (List AV)) : (List AV)) : (List AV)) : (List AV)) : (List AV)) : (List AV))), (AV.b x9)]) ([] : List (Prod Nat Blk))) ∧
 (brP (Bool.and (Bool.and (strEq x2 x6) (Bool.and (strEq x3 x7) Bool.true)) (Bool.and (decide (n8 = (n13 : Int))) (Bool.and (strEq x4 x8) (Bool.and (decide (n9 = (n14 : Int))) (Bool.and (decide (n10 = (n15 : Int))) (Bool.and (decide (n11 = (n16 : Int))) (Bool.and (decide (n12 = (n17 : Int))) Bool.true))))))) (brP (x5 == x9) (∃ n18 : Int, ((ACalls Try.prog 20 [(AV.ag [(AV.i IntKind.i64 a), (AV.i IntKind.i64 b), (AV.i IntKind.i64 c), (AV.sl (Q.rowH l))]), (AV.s (x).7)] ([] : List (Prod Nat Blk)) (AV.i IntKind.i64 n18) ([] : List (Prod Nat Blk))) ∧
 (∃ n19 : Int, ((ACalls Try.prog 21 [(AV.ag [(AV.i IntKind.i64 a), (AV.i IntKind.i64 b), (AV.i IntKind.i64 c), (AV.sl (Q.rowH l))]), (AV.s (x).7)] ([] : List (Prod Nat Blk)) (AV.i IntKind.i64 n19) ([] : List (Prod Nat Blk))) ∧
 ((Bool.true = (Bool.true : Bool)) ∧
 (((AV.tup [(AV.ag [(AV.i IntKind.i64 a), (AV.i IntKind.i64 b), (AV.i IntKind.i64 c), (AV.sl (Q.rowH l))]), (AV.ag [(AV.i IntKind.i64 a), (AV.i IntKind.i64 b), (AV.i IntKind.i64 c), (AV.sl (Q.rowH l))]), (AV.b (decide (n18 = (n19 : Int))))]) = (r : AV)) ∧
 (([] : List (Prod Nat Blk)) = (([] : List (Prod Nat Blk)) : Heap)))))))) ((Bool.true = (Bool.true : Bool)) ∧
 (((AV.tup [(AV.ag [(AV.i IntKind.i64 a), (AV.i IntKind.i64 b), (AV.i IntKind.i64 c), (AV.sl (Q.rowH l))]), (AV.ag [(AV.i IntKind.i64 a), (AV.i IntKind.i64 b), (AV.i IntKind.i64 c), (AV.sl (Q.rowH l))]), (AV.b Bool.false)]) = (r : AV)) ∧
 (([] : List (Prod Nat Blk)) = (([] : List (Prod Nat Blk)) : Heap))))) ((Bool.true = (Bool.true : Bool)) ∧
 (((AV.tup [(AV.ag [(AV.i IntKind.i64 a), (AV.i IntKind.i64 b), (AV.i IntKind.i64 c), (AV.sl (Q.rowH l))]), (AV.ag [(AV.i IntKind.i64 a), (AV.i IntKind.i64 b), (AV.i IntKind.i64 c), (AV.sl (Q.rowH l))]), (AV.b Bool.false)]) = (r : AV)) ∧
 (([] : List (Prod Nat Blk)) = (([] : List (Prod Nat Blk)) : Heap)))))))))))))))))))))))))))))))))))))))))) (brP (decide ((x).1 = ((4 : Int) : Int))) (∃ n : Int, (∃ n1 : Int, (∃ n2 : Int, (∃ xs : (List (List AV)), (∃ n3 : Int, ((ACalls Try.prog 31 [(AV.ag [(AV.i IntKind.i64 a), (AV.i IntKind.i64 b), (AV.i IntKind.i64 c), (AV.sl (Q.rowH l))]), (AV.ag [(AV.s (x).5), (AV.s (x).6)]), (AV.i IntKind.i64 (x).2), (AV.i IntKind.i64 (x).3), (AV.i IntKind.i64 (x).4)] ([] : List (Prod Nat Blk)) (AV.tup [(AV.ag ([(AV.i IntKind.i64 n)] ++ ([(AV.i IntKind.i64 n1)] ++ ([(AV.i IntKind.i64 n2)] ++ ([(AV.sl xs)] ++ ([] : List AV) : (List AV)) : (List AV)) : (List AV)) : (List AV))), (AV.i IntKind.i64 n3)]) ([] : List (Prod Nat Blk))) ∧
 (∃ n4 : Int, (∃ n5 : Int, (∃ n6 : Int, (∃ xs1 : (List (List AV)), (∃ n7 : Int, ((ACalls Try.prog 57 [(AV.ag [(AV.i IntKind.i64 a), (AV.i IntKind.i64 b), (AV.i IntKind.i64 c), (AV.sl (Q.rowH l))]), (AV.ag [(AV.s (x).5), (AV.s (x).6)]), (AV.i IntKind.i64 (x).2), (AV.i IntKind.i64 (x).3), (AV.i IntKind.i64 (x).4)] ([] : List (Prod Nat Blk)) (AV.tup [(AV.ag ([(AV.i IntKind.i64 n4)] ++ ([(AV.i IntKind.i64 n5)] ++ ([(AV.i IntKind.i64 n6)] ++ ([(AV.sl xs1)] ++ ([] : List AV) : (List AV)) : (List AV)) : (List AV)) : (List AV))), (AV.i IntKind.i64 n7)]) ([] : List (Prod Nat Blk))) ∧
 (brP (!(decide (n3 = (n7 : Int)))) ((Bool.true = (Bool.true : Bool)) ∧
 (((AV.tup [(AV.ag [(AV.i IntKind.i64 a), (AV.i IntKind.i64 b), (AV.i IntKind.i64 c), (AV.sl (Q.rowH l))]), (AV.ag [(AV.i IntKind.i64 a), (AV.i IntKind.i64 b), (AV.i IntKind.i64 c), (AV.sl (Q.rowH l))]), (AV.b Bool.false)]) = (r : AV)) ∧
 (([] : List (Prod Nat Blk)) = (([] : List (Prod Nat Blk)) : Heap)))) (∃ x1 : Bool, ((ACalls Try.prog 12 [(AV.ag [(AV.i IntKind.i64 n), (AV.i IntKind.i64 n1), (AV.i IntKind.i64 n2), (AV.sl xs)]), (AV.ag [(AV.i IntKind.i64 n4), (AV.i IntKind.i64 n5), (AV.i IntKind.i64 n6), (AV.sl xs1)])] ([] : List (Prod Nat Blk)) (AV.b x1) ([] : List (Prod Nat Blk))) ∧
 (brP (!x1) ((Bool.true = (Bool.true : Bool)) ∧
 (((AV.tup [(AV.ag [(AV.i IntKind.i64 a), (AV.i IntKind.i64 b), (AV.i IntKind.i64 c), (AV.sl (Q.rowH l))]), (AV.ag [(AV.i IntKind.i64 a), (AV.i IntKind.i64 b), (AV.i IntKind.i64 c), (AV.sl (Q.rowH l))]), (AV.b Bool.false)]) = (r : AV)) ∧
 (([] : List (Prod Nat Blk)) = (([] : List (Prod Nat Blk)) : Heap)))) (brP (decide (n3 = ((0 : Int) : Int))) ((Bool.true = (Bool.true : Bool)) ∧
 (∃ x2 : ByteArray, (∃ x3 : ByteArray, (∃ n8 : Int, (∃ x4 : ByteArray, (∃ n9 : Int, (∃ n10 : Int, (∃ n11 : Int, (∃ n12 : Int, (∃ x5 : Bool, ((ACalls Try.prog 22 [(AV.ag [(AV.i IntKind.i64 n), (AV.i IntKind.i64 n1), (AV.i IntKind.i64 n2), (AV.sl xs)]), (AV.ag [(AV.s (x).5), (AV.s (x).6)]), (AV.i IntKind.i64 (x).2), (AV.i IntKind.i64 (x).3)] ([] : List (Prod Nat Blk)) (AV.tup [(AV.ag (([(AV.s x2)] ++ ([(AV.s x3)] ++ ([] : List AV) : (List AV)) : (List AV)) ++ ([(AV.i IntKind.i64 n8)] ++ ([(AV.s x4)] ++ ([(AV.i IntKind.i64 n9)] ++ ([(AV.i IntKind.i64 n10)] ++ ([(AV.i IntKind.i64 n11)] ++ ([(AV.i IntKind.i64 n12)] ++ ([] : List AV) : (List AV)) : (List AV)) : (List AV)) : (List AV)) : (List AV)) : (List AV)) : (List AV))), (AV.b x5)]) ([] : List (Prod Nat Blk))) ∧
 (∃ x6 : ByteArray, (∃ x7 : ByteArray, (∃ n13 : Int, (∃ x8 : ByteArray, (∃ n14 : Int, (∃ n15 : Int, (∃ n16 : Int, (∃ n17 : Int, (∃ x9 : Bool, ((ACalls Try.prog 61 [(AV.ag [(AV.i IntKind.i64 n4), (AV.i IntKind.i64 n5), (AV.i IntKind.i64 n6), (AV.sl xs1)]), (AV.ag [(AV.s (x).5), (AV.s (x).6)]), (AV.i IntKind.i64 (x).2), (AV.i IntKind.i64 (x).3)] ([] : List (Prod Nat Blk)) (AV.tup [(AV.ag (([(AV.s x6)] ++ ([(AV.s x7)] ++ ([] : List AV) : (List AV)) : (List AV)) ++ ([(AV.i IntKind.i64 n13)] ++ ([(AV.s x8)] ++ ([(AV.i IntKind.i64 n14)] ++ ([(AV.i IntKind.i64 n15)] ++ ([(AV.i IntKind.i64 n16)] ++ ([(AV.i IntKind.i64 n17)] ++ ([] : List AV) : (List AV)) : (List AV)) : (List AV)) : (List AV)) : (List AV)) : (List AV)) : (List AV))), (AV.b x9)]) ([] : List (Prod Nat Blk))) ∧
 (brP (Bool.and (Bool.and (strEq x2 x6) (Bool.and (strEq x3 x7) Bool.true)) (Bool.and (decide (n8 = (n13 : Int))) (Bool.and (strEq x4 x8) (Bool.and (decide (n9 = (n14 : Int))) (Bool.and (decide (n10 = (n15 : Int))) (Bool.and (decide (n11 = (n16 : Int))) (Bool.and (decide (n12 = (n17 : Int))) Bool.true))))))) (brP (x5 == x9) (∃ n18 : Int, ((ACalls Try.prog 20 [(AV.ag [(AV.i IntKind.i64 n), (AV.i IntKind.i64 n1), (AV.i IntKind.i64 n2), (AV.sl xs)]), (AV.s (x).7)] ([] : List (Prod Nat Blk)) (AV.i IntKind.i64 n18) ([] : List (Prod Nat Blk))) ∧
 (∃ n19 : Int, ((ACalls Try.prog 21 [(AV.ag [(AV.i IntKind.i64 n4), (AV.i IntKind.i64 n5), (AV.i IntKind.i64 n6), (AV.sl xs1)]), (AV.s (x).7)] ([] : List (Prod Nat Blk)) (AV.i IntKind.i64 n19) ([] : List (Prod Nat Blk))) ∧
 ((Bool.true = (Bool.true : Bool)) ∧
 (((AV.tup [(AV.ag [(AV.i IntKind.i64 n), (AV.i IntKind.i64 n1), (AV.i IntKind.i64 n2), (AV.sl xs)]), (AV.ag [(AV.i IntKind.i64 n4), (AV.i IntKind.i64 n5), (AV.i IntKind.i64 n6), (AV.sl xs1)]), (AV.b (decide (n18 = (n19 : Int))))]) = (r : AV)) ∧
 (([] : List (Prod Nat Blk)) = (([] : List (Prod Nat Blk)) : Heap)))))))) ((Bool.true = (Bool.true : Bool)) ∧
 (((AV.tup [(AV.ag [(AV.i IntKind.i64 n), (AV.i IntKind.i64 n1), (AV.i IntKind.i64 n2), (AV.sl xs)]), (AV.ag [(AV.i IntKind.i64 n4), (AV.i IntKind.i64 n5), (AV.i IntKind.i64 n6), (AV.sl xs1)]), (AV.b Bool.false)]) = (r : AV)) ∧
 (([] : List (Prod Nat Blk)) = (([] : List (Prod Nat Blk)) : Heap))))) ((Bool.true = (Bool.true : Bool)) ∧
 (((AV.tup [(AV.ag [(AV.i IntKind.i64 n), (AV.i IntKind.i64 n1), (AV.i IntKind.i64 n2), (AV.sl xs)]), (AV.ag [(AV.i IntKind.i64 n4), (AV.i IntKind.i64 n5), (AV.i IntKind.i64 n6), (AV.sl xs1)]), (AV.b Bool.false)]) = (r : AV)) ∧
 (([] : List (Prod Nat Blk)) = (([] : List (Prod Nat Blk)) : Heap)))))))))))))))))))))))))) (∃ x2 : ByteArray, (∃ x3 : ByteArray, (∃ n8 : Int, (∃ x4 : ByteArray, (∃ n9 : Int, (∃ n10 : Int, (∃ n11 : Int, (∃ n12 : Int, (∃ x5 : Bool, ((ACalls Try.prog 22 [(AV.ag [(AV.i IntKind.i64 a), (AV.i IntKind.i64 b), (AV.i IntKind.i64 c), (AV.sl (Q.rowH l))]), (AV.ag [(AV.s (x).5), (AV.s (x).6)]), (AV.i IntKind.i64 (x).2), (AV.i IntKind.i64 (x).3)] ([] : List (Prod Nat Blk)) (AV.tup [(AV.ag (([(AV.s x2)] ++ ([(AV.s x3)] ++ ([] : List AV) : (List AV)) : (List AV)) ++ ([(AV.i IntKind.i64 n8)] ++ ([(AV.s x4)] ++ ([(AV.i IntKind.i64 n9)] ++ ([(AV.i IntKind.i64 n10)] ++ ([(AV.i IntKind.i64 n11)] ++ ([(AV.i IntKind.i64 n12)] ++ ([] : List AV) : (List AV)) : (List AV)) : (List AV)) : (List AV)) : (List AV)) : (List AV)) : (List AV))), (AV.b x5)]) ([] : List (Prod Nat Blk))) ∧
 (∃ x6 : ByteArray, (∃ x7 : ByteArray, (∃ n13 : Int, (∃ x8 : ByteArray, (∃ n14 : Int, (∃ n15 : Int, (∃ n16 : Int, (∃ n17 : Int, (∃ x9 : Bool, ((ACalls Try.prog 61 [(AV.ag [(AV.i IntKind.i64 a), (AV.i IntKind.i64 b), (AV.i IntKind.i64 c), (AV.sl (Q.rowH l))]), (AV.ag [(AV.s (x).5), (AV.s (x).6)]), (AV.i IntKind.i64 (x).2), (AV.i IntKind.i64 (x).3)] ([] : List (Prod Nat Blk)) (AV.tup [(AV.ag (([(AV.s x6)] ++ ([(AV.s x7)] ++ ([] : List AV) : (List AV)) : (List AV)) ++ ([(AV.i IntKind.i64 n13)] ++ ([(AV.s x8)] ++ ([(AV.i IntKind.i64 n14)] ++ ([(AV.i IntKind.i64 n15)] ++ ([(AV.i IntKind.i64 n16)] ++ ([(AV.i IntKind.i64 n17)] ++ ([] : List AV) : (List AV)) : (List AV)) : (List AV)) : (List AV)) : (List AV)) : (List AV)) : (List AV))), (AV.b x9)]) ([] : List (Prod Nat Blk))) ∧
 (brP (Bool.and (Bool.and (strEq x2 x6) (Bool.and (strEq x3 x7) Bool.true)) (Bool.and (decide (n8 = (n13 : Int))) (Bool.and (strEq x4 x8) (Bool.and (decide (n9 = (n14 : Int))) (Bool.and (decide (n10 = (n15 : Int))) (Bool.and (decide (n11 = (n16 : Int))) (Bool.and (decide (n12 = (n17 : Int))) Bool.true))))))) (brP (x5 == x9) (∃ n18 : Int, ((ACalls Try.prog 20 [(AV.ag [(AV.i IntKind.i64 a), (AV.i IntKind.i64 b), (AV.i IntKind.i64 c), (AV.sl (Q.rowH l))]), (AV.s (x).7)] ([] : List (Prod Nat Blk)) (AV.i IntKind.i64 n18) ([] : List (Prod Nat Blk))) ∧
 (∃ n19 : Int, ((ACalls Try.prog 21 [(AV.ag [(AV.i IntKind.i64 a), (AV.i IntKind.i64 b), (AV.i IntKind.i64 c), (AV.sl (Q.rowH l))]), (AV.s (x).7)] ([] : List (Prod Nat Blk)) (AV.i IntKind.i64 n19) ([] : List (Prod Nat Blk))) ∧
 ((Bool.true = (Bool.true : Bool)) ∧
 (((AV.tup [(AV.ag [(AV.i IntKind.i64 a), (AV.i IntKind.i64 b), (AV.i IntKind.i64 c), (AV.sl (Q.rowH l))]), (AV.ag [(AV.i IntKind.i64 a), (AV.i IntKind.i64 b), (AV.i IntKind.i64 c), (AV.sl (Q.rowH l))]), (AV.b (decide (n18 = (n19 : Int))))]) = (r : AV)) ∧
 (([] : List (Prod Nat Blk)) = (([] : List (Prod Nat Blk)) : Heap)))))))) ((Bool.true = (Bool.true : Bool)) ∧
 (((AV.tup [(AV.ag [(AV.i IntKind.i64 a), (AV.i IntKind.i64 b), (AV.i IntKind.i64 c), (AV.sl (Q.rowH l))]), (AV.ag [(AV.i IntKind.i64 a), (AV.i IntKind.i64 b), (AV.i IntKind.i64 c), (AV.sl (Q.rowH l))]), (AV.b Bool.false)]) = (r : AV)) ∧
 (([] : List (Prod Nat Blk)) = (([] : List (Prod Nat Blk)) : Heap))))) ((Bool.true = (Bool.true : Bool)) ∧
 (((AV.tup [(AV.ag [(AV.i IntKind.i64 a), (AV.i IntKind.i64 b), (AV.i IntKind.i64 c), (AV.sl (Q.rowH l))]), (AV.ag [(AV.i IntKind.i64 a), (AV.i IntKind.i64 b), (AV.i IntKind.i64 c), (AV.sl (Q.rowH l))]), (AV.b Bool.false)]) = (r : AV)) ∧
 (([] : List (Prod Nat Blk)) = (([] : List (Prod Nat Blk)) : Heap)))))))))))))))))))))))))))))))))))))))))) (brP (decide ((x).1 = ((5 : Int) : Int))) (∃ n : Int, (∃ n1 : Int, (∃ n2 : Int, (∃ xs : (List (List AV)), (∃ n3 : Int, ((ACalls Try.prog 19 [(AV.ag [(AV.i IntKind.i64 a), (AV.i IntKind.i64 b), (AV.i IntKind.i64 c), (AV.sl (Q.rowH l))]), (AV.ag [(AV.s (x).5), (AV.s (x).6)]), (AV.i IntKind.i64 (x).2), (AV.i IntKind.i64 (x).3)] ([] : List (Prod Nat Blk)) (AV.tup [(AV.ag ([(AV.i IntKind.i64 n)] ++ ([(AV.i IntKind.i64 n1)] ++ ([(AV.i IntKind.i64 n2)] ++ ([(AV.sl xs)] ++ ([] : List AV) : (List AV)) : (List AV)) : (List AV)) : (List AV))), (AV.i IntKind.i64 n3)]) ([] : List (Prod Nat Blk))) ∧
 (∃ n4 : Int, (∃ n5 : Int, (∃ n6 : Int, (∃ xs1 : (List (List AV)), (∃ n7 : Int, ((ACalls Try.prog 58 [(AV.ag [(AV.i IntKind.i64 a), (AV.i IntKind.i64 b), (AV.i IntKind.i64 c), (AV.sl (Q.rowH l))]), (AV.ag [(AV.s (x).5), (AV.s (x).6)]), (AV.i IntKind.i64 (x).2), (AV.i IntKind.i64 (x).3)] ([] : List (Prod Nat Blk)) (AV.tup [(AV.ag ([(AV.i IntKind.i64 n4)] ++ ([(AV.i IntKind.i64 n5)] ++ ([(AV.i IntKind.i64 n6)] ++ ([(AV.sl xs1)] ++ ([] : List AV) : (List AV)) : (List AV)) : (List AV)) : (List AV))), (AV.i IntKind.i64 n7)]) ([] : List (Prod Nat Blk))) ∧
 (brP (!(decide (n3 = (n7 : Int)))) ((Bool.true = (Bool.true : Bool)) ∧
 (((AV.tup [(AV.ag [(AV.i IntKind.i64 a), (AV.i IntKind.i64 b), (AV.i IntKind.i64 c), (AV.sl (Q.rowH l))]), (AV.ag [(AV.i IntKind.i64 a), (AV.i IntKind.i64 b), (AV.i IntKind.i64 c), (AV.sl (Q.rowH l))]), (AV.b Bool.false)]) = (r : AV)) ∧
 (([] : List (Prod Nat Blk)) = (([] : List (Prod Nat Blk)) : Heap)))) (∃ x1 : Bool, ((ACalls Try.prog 12 [(AV.ag [(AV.i IntKind.i64 n), (AV.i IntKind.i64 n1), (AV.i IntKind.i64 n2), (AV.sl xs)]), (AV.ag [(AV.i IntKind.i64 n4), (AV.i IntKind.i64 n5), (AV.i IntKind.i64 n6), (AV.sl xs1)])] ([] : List (Prod Nat Blk)) (AV.b x1) ([] : List (Prod Nat Blk))) ∧
 (brP (!x1) ((Bool.true = (Bool.true : Bool)) ∧
 (((AV.tup [(AV.ag [(AV.i IntKind.i64 a), (AV.i IntKind.i64 b), (AV.i IntKind.i64 c), (AV.sl (Q.rowH l))]), (AV.ag [(AV.i IntKind.i64 a), (AV.i IntKind.i64 b), (AV.i IntKind.i64 c), (AV.sl (Q.rowH l))]), (AV.b Bool.false)]) = (r : AV)) ∧
 (([] : List (Prod Nat Blk)) = (([] : List (Prod Nat Blk)) : Heap)))) (brP (decide (n3 = ((0 : Int) : Int))) ((Bool.true = (Bool.true : Bool)) ∧
 (∃ x2 : ByteArray, (∃ x3 : ByteArray, (∃ n8 : Int, (∃ x4 : ByteArray, (∃ n9 : Int, (∃ n10 : Int, (∃ n11 : Int, (∃ n12 : Int, (∃ x5 : Bool, ((ACalls Try.prog 22 [(AV.ag [(AV.i IntKind.i64 n), (AV.i IntKind.i64 n1), (AV.i IntKind.i64 n2), (AV.sl xs)]), (AV.ag [(AV.s (x).5), (AV.s (x).6)]), (AV.i IntKind.i64 (x).2), (AV.i IntKind.i64 (x).3)] ([] : List (Prod Nat Blk)) (AV.tup [(AV.ag (([(AV.s x2)] ++ ([(AV.s x3)] ++ ([] : List AV) : (List AV)) : (List AV)) ++ ([(AV.i IntKind.i64 n8)] ++ ([(AV.s x4)] ++ ([(AV.i IntKind.i64 n9)] ++ ([(AV.i IntKind.i64 n10)] ++ ([(AV.i IntKind.i64 n11)] ++ ([(AV.i IntKind.i64 n12)] ++ ([] : List AV) : (List AV)) : (List AV)) : (List AV)) : (List AV)) : (List AV)) : (List AV)) : (List AV))), (AV.b x5)]) ([] : List (Prod Nat Blk))) ∧
 (∃ x6 : ByteArray, (∃ x7 : ByteArray, (∃ n13 : Int, (∃ x8 : ByteArray, (∃ n14 : Int, (∃ n15 : Int, (∃ n16 : Int, (∃ n17 : Int, (∃ x9 : Bool, ((ACalls Try.prog 61 [(AV.ag [(AV.i IntKind.i64 n4), (AV.i IntKind.i64 n5), (AV.i IntKind.i64 n6), (AV.sl xs1)]), (AV.ag [(AV.s (x).5), (AV.s (x).6)]), (AV.i IntKind.i64 (x).2), (AV.i IntKind.i64 (x).3)] ([] : List (Prod Nat Blk)) (AV.tup [(AV.ag (([(AV.s x6)] ++ ([(AV.s x7)] ++ ([] : List AV) : (List AV)) : (List AV)) ++ ([(AV.i IntKind.i64 n13)] ++ ([(AV.s x8)] ++ ([(AV.i IntKind.i64 n14)] ++ ([(AV.i IntKind.i64 n15)] ++ ([(AV.i IntKind.i64 n16)] ++ ([(AV.i IntKind.i64 n17)] ++ ([] : List AV) : (List AV)) : (List AV)) : (List AV)) : (List AV)) : (List AV)) : (List AV)) : (List AV))), (AV.b x9)]) ([] : List (Prod Nat Blk))) ∧
 (brP (Bool.and (Bool.and (strEq x2 x6) (Bool.and (strEq x3 x7) Bool.true)) (Bool.and (decide (n8 = (n13 : Int))) (Bool.and (strEq x4 x8) (Bool.and (decide (n9 = (n14 : Int))) (Bool.and (decide (n10 = (n15 : Int))) (Bool.and (decide (n11 = (n16 : Int))) (Bool.and (decide (n12 = (n17 : Int))) Bool.true))))))) (brP (x5 == x9) (∃ n18 : Int, ((ACalls Try.prog 20 [(AV.ag [(AV.i IntKind.i64 n), (AV.i IntKind.i64 n1), (AV.i IntKind.i64 n2), (AV.sl xs)]), (AV.s (x).7)] ([] : List (Prod Nat Blk)) (AV.i IntKind.i64 n18) ([] : List (Prod Nat Blk))) ∧
 (∃ n19 : Int, ((ACalls Try.prog 21 [(AV.ag [(AV.i IntKind.i64 n4), (AV.i IntKind.i64 n5), (AV.i IntKind.i64 n6), (AV.sl xs1)]), (AV.s (x).7)] ([] : List (Prod Nat Blk)) (AV.i IntKind.i64 n19) ([] : List (Prod Nat Blk))) ∧
 ((Bool.true = (Bool.true : Bool)) ∧
 (((AV.tup [(AV.ag [(AV.i IntKind.i64 n), (AV.i IntKind.i64 n1), (AV.i IntKind.i64 n2), (AV.sl xs)]), (AV.ag [(AV.i IntKind.i64 n4), (AV.i IntKind.i64 n5), (AV.i IntKind.i64 n6), (AV.sl xs1)]), (AV.b (decide (n18 = (n19 : Int))))]) = (r : AV)) ∧
 (([] : List (Prod Nat Blk)) = (([] : List (Prod Nat Blk)) : Heap)))))))) ((Bool.true = (Bool.true : Bool)) ∧
 (((AV.tup [(AV.ag [(AV.i IntKind.i64 n), (AV.i IntKind.i64 n1), (AV.i IntKind.i64 n2), (AV.sl xs)]), (AV.ag [(AV.i IntKind.i64 n4), (AV.i IntKind.i64 n5), (AV.i IntKind.i64 n6), (AV.sl xs1)]), (AV.b Bool.false)]) = (r : AV)) ∧
 (([] : List (Prod Nat Blk)) = (([] : List (Prod Nat Blk)) : Heap))))) ((Bool.true = (Bool.true : Bool)) ∧
 (((AV.tup [(AV.ag [(AV.i IntKind.i64 n), (AV.i IntKind.i64 n1), (AV.i IntKind.i64 n2), (AV.sl xs)]), (AV.ag [(AV.i IntKind.i64 n4), (AV.i IntKind.i64 n5), (AV.i IntKind.i64 n6), (AV.sl xs1)]), (AV.b Bool.false)]) = (r : AV)) ∧
 (([] : List (Prod Nat Blk)) = (([] : List (Prod Nat Blk)) : Heap)))))))))))))))))))))))))) (∃ x2 : ByteArray, (∃ x3 : ByteArray, (∃ n8 : Int, (∃ x4 : ByteArray, (∃ n9 : Int, (∃ n10 : Int, (∃ n11 : Int, (∃ n12 : Int, (∃ x5 : Bool, ((ACalls Try.prog 22 [(AV.ag [(AV.i IntKind.i64 a), (AV.i IntKind.i64 b), (AV.i IntKind.i64 c), (AV.sl (Q.rowH l))]), (AV.ag [(AV.s (x).5), (AV.s (x).6)]), (AV.i IntKind.i64 (x).2), (AV.i IntKind.i64 (x).3)] ([] : List (Prod Nat Blk)) (AV.tup [(AV.ag (([(AV.s x2)] ++ ([(AV.s x3)] ++ ([] : List AV) : (List AV)) : (List AV)) ++ ([(AV.i IntKind.i64 n8)] ++ ([(AV.s x4)] ++ ([(AV.i IntKind.i64 n9)] ++ ([(AV.i IntKind.i64 n10)] ++ ([(AV.i IntKind.i64 n11)] ++ ([(AV.i IntKind.i64 n12)] ++ ([] : List AV) : (List AV)) : (List AV)) : (List AV)) : (List AV)) : (List AV)) : (List AV)) : (List AV))), (AV.b x5)]) ([] : List (Prod Nat Blk))) ∧
 (∃ x6 : ByteArray, (∃ x7 : ByteArray, (∃ n13 : Int, (∃ x8 : ByteArray, (∃ n14 : Int, (∃ n15 : Int, (∃ n16 : Int, (∃ n17 : Int, (∃ x9 : Bool, ((ACalls Try.prog 61 [(AV.ag [(AV.i IntKind.i64 a), (AV.i IntKind.i64 b), (AV.i IntKind.i64 c), (AV.sl (Q.rowH l))]), (AV.ag [(AV.s (x).5), (AV.s (x).6)]), (AV.i IntKind.i64 (x).2), (AV.i IntKind.i64 (x).3)] ([] : List (Prod Nat Blk)) (AV.tup [(AV.ag (([(AV.s x6)] ++ ([(AV.s x7)] ++ ([] : List AV) : (List AV)) : (List AV)) ++ ([(AV.i IntKind.i64 n13)] ++ ([(AV.s x8)] ++ ([(AV.i IntKind.i64 n14)] ++ ([(AV.i IntKind.i64 n15)] ++ ([(AV.i IntKind.i64 n16)] ++ ([(AV.i IntKind.i64 n17)] ++ ([] : List AV) : (List AV)) : (List AV)) : (List AV)) : (List AV)) : (List AV)) : (List AV)) : (List AV))), (AV.b x9)]) ([] : List (Prod Nat Blk))) ∧
 (brP (Bool.and (Bool.and (strEq x2 x6) (Bool.and (strEq x3 x7) Bool.true)) (Bool.and (decide (n8 = (n13 : Int))) (Bool.and (strEq x4 x8) (Bool.and (decide (n9 = (n14 : Int))) (Bool.and (decide (n10 = (n15 : Int))) (Bool.and (decide (n11 = (n16 : Int))) (Bool.and (decide (n12 = (n17 : Int))) Bool.true))))))) (brP (x5 == x9) (∃ n18 : Int, ((ACalls Try.prog 20 [(AV.ag [(AV.i IntKind.i64 a), (AV.i IntKind.i64 b), (AV.i IntKind.i64 c), (AV.sl (Q.rowH l))]), (AV.s (x).7)] ([] : List (Prod Nat Blk)) (AV.i IntKind.i64 n18) ([] : List (Prod Nat Blk))) ∧
 (∃ n19 : Int, ((ACalls Try.prog 21 [(AV.ag [(AV.i IntKind.i64 a), (AV.i IntKind.i64 b), (AV.i IntKind.i64 c), (AV.sl (Q.rowH l))]), (AV.s (x).7)] ([] : List (Prod Nat Blk)) (AV.i IntKind.i64 n19) ([] : List (Prod Nat Blk))) ∧
 ((Bool.true = (Bool.true : Bool)) ∧
 (((AV.tup [(AV.ag [(AV.i IntKind.i64 a), (AV.i IntKind.i64 b), (AV.i IntKind.i64 c), (AV.sl (Q.rowH l))]), (AV.ag [(AV.i IntKind.i64 a), (AV.i IntKind.i64 b), (AV.i IntKind.i64 c), (AV.sl (Q.rowH l))]), (AV.b (decide (n18 = (n19 : Int))))]) = (r : AV)) ∧
 (([] : List (Prod Nat Blk)) = (([] : List (Prod Nat Blk)) : Heap)))))))) ((Bool.true = (Bool.true : Bool)) ∧
 (((AV.tup [(AV.ag [(AV.i IntKind.i64 a), (AV.i IntKind.i64 b), (AV.i IntKind.i64 c), (AV.sl (Q.rowH l))]), (AV.ag [(AV.i IntKind.i64 a), (AV.i IntKind.i64 b), (AV.i IntKind.i64 c), (AV.sl (Q.rowH l))]), (AV.b Bool.false)]) = (r : AV)) ∧
 (([] : List (Prod Nat Blk)) = (([] : List (Prod Nat Blk)) : Heap))))) ((Bool.true = (Bool.true : Bool)) ∧
 (((AV.tup [(AV.ag [(AV.i IntKind.i64 a), (AV.i IntKind.i64 b), (AV.i IntKind.i64 c), (AV.sl (Q.rowH l))]), (AV.ag [(AV.i IntKind.i64 a), (AV.i IntKind.i64 b), (AV.i IntKind.i64 c), (AV.sl (Q.rowH l))]), (AV.b Bool.false)]) = (r : AV)) ∧
 (([] : List (Prod Nat Blk)) = (([] : List (Prod Nat Blk)) : Heap)))))))))))))))))))))))))))))))))))))))))) (brP (decide ((x).1 = ((6 : Int) : Int))) (∃ n : Int, (∃ n1 : Int, (∃ n2 : Int, (∃ xs : (List (List AV)), (∃ n3 : Int, ((ACalls Try.prog 23 [(AV.ag [(AV.i IntKind.i64 a), (AV.i IntKind.i64 b), (AV.i IntKind.i64 c), (AV.sl (Q.rowH l))]), (AV.ag [(AV.s (x).5), (AV.s (x).6)]), (AV.i IntKind.i64 (x).2), (AV.i IntKind.i64 (x).3)] ([] : List (Prod Nat Blk)) (AV.tup [(AV.ag ([(AV.i IntKind.i64 n)] ++ ([(AV.i IntKind.i64 n1)] ++ ([(AV.i IntKind.i64 n2)] ++ ([(AV.sl xs)] ++ ([] : List AV) : (List AV)) : (List AV)) : (List AV)) : (List AV))), (AV.i IntKind.i64 n3)]) ([] : List (Prod Nat Blk))) ∧
 (∃ n4 : Int, (∃ n5 : Int, (∃ n6 : Int, (∃ xs1 : (List (List AV)), (∃ n7 : Int, ((ACalls Try.prog 59 [(AV.ag [(AV.i IntKind.i64 a), (AV.i IntKind.i64 b), (AV.i IntKind.i64 c), (AV.sl (Q.rowH l))]), (AV.ag [(AV.s (x).5), (AV.s (x).6)]), (AV.i IntKind.i64 (x).2), (AV.i IntKind.i64 (x).3)] ([] : List (Prod Nat Blk)) (AV.tup [(AV.ag ([(AV.i IntKind.i64 n4)] ++ ([(AV.i IntKind.i64 n5)] ++ ([(AV.i IntKind.i64 n6)] ++ ([(AV.sl xs1)] ++ ([] : List AV) : (List AV)) : (List AV)) : (List AV)) : (List AV))), (AV.i IntKind.i64 n7)]) ([] : List (Prod Nat Blk))) ∧
 (brP (!(decide (n3 = (n7 : Int)))) ((Bool.true = (Bool.true : Bool)) ∧
 (((AV.tup [(AV.ag [(AV.i IntKind.i64 a), (AV.i IntKind.i64 b), (AV.i IntKind.i64 c), (AV.sl (Q.rowH l))]), (AV.ag [(AV.i IntKind.i64 a), (AV.i IntKind.i64 b), (AV.i IntKind.i64 c), (AV.sl (Q.rowH l))]), (AV.b Bool.false)]) = (r : AV)) ∧
 (([] : List (Prod Nat Blk)) = (([] : List (Prod Nat Blk)) : Heap)))) (∃ x1 : Bool, ((ACalls Try.prog 12 [(AV.ag [(AV.i IntKind.i64 n), (AV.i IntKind.i64 n1), (AV.i IntKind.i64 n2), (AV.sl xs)]), (AV.ag [(AV.i IntKind.i64 n4), (AV.i IntKind.i64 n5), (AV.i IntKind.i64 n6), (AV.sl xs1)])] ([] : List (Prod Nat Blk)) (AV.b x1) ([] : List (Prod Nat Blk))) ∧
 (brP (!x1) ((Bool.true = (Bool.true : Bool)) ∧
 (((AV.tup [(AV.ag [(AV.i IntKind.i64 a), (AV.i IntKind.i64 b), (AV.i IntKind.i64 c), (AV.sl (Q.rowH l))]), (AV.ag [(AV.i IntKind.i64 a), (AV.i IntKind.i64 b), (AV.i IntKind.i64 c), (AV.sl (Q.rowH l))]), (AV.b Bool.false)]) = (r : AV)) ∧
 (([] : List (Prod Nat Blk)) = (([] : List (Prod Nat Blk)) : Heap)))) (brP (decide (n3 = ((0 : Int) : Int))) ((Bool.true = (Bool.true : Bool)) ∧
 (∃ x2 : ByteArray, (∃ x3 : ByteArray, (∃ n8 : Int, (∃ x4 : ByteArray, (∃ n9 : Int, (∃ n10 : Int, (∃ n11 : Int, (∃ n12 : Int, (∃ x5 : Bool, ((ACalls Try.prog 22 [(AV.ag [(AV.i IntKind.i64 n), (AV.i IntKind.i64 n1), (AV.i IntKind.i64 n2), (AV.sl xs)]), (AV.ag [(AV.s (x).5), (AV.s (x).6)]), (AV.i IntKind.i64 (x).2), (AV.i IntKind.i64 (x).3)] ([] : List (Prod Nat Blk)) (AV.tup [(AV.ag (([(AV.s x2)] ++ ([(AV.s x3)] ++ ([] : List AV) : (List AV)) : (List AV)) ++ ([(AV.i IntKind.i64 n8)] ++ ([(AV.s x4)] ++ ([(AV.i IntKind.i64 n9)] ++ ([(AV.i IntKind.i64 n10)] ++ ([(AV.i IntKind.i64 n11)] ++ ([(AV.i IntKind.i64 n12)] ++ ([] : List AV) : (List AV)) : (List AV)) : (List AV)) : (List AV)) : (List AV)) : (List AV)) : (List AV))), (AV.b x5)]) ([] : List (Prod Nat Blk))) ∧
 (∃ x6 : ByteArray, (∃ x7 : ByteArray, (∃ n13 : Int, (∃ x8 : ByteArray, (∃ n14 : Int, (∃ n15 : Int, (∃ n16 : Int, (∃ n17 : Int, (∃ x9 : Bool, ((ACalls Try.prog 61 [(AV.ag [(AV.i IntKind.i64 n4), (AV.i IntKind.i64 n5), (AV.i IntKind.i64 n6), (AV.sl xs1)]), (AV.ag [(AV.s (x).5), (AV.s (x).6)]), (AV.i IntKind.i64 (x).2), (AV.i IntKind.i64 (x).3)] ([] : List (Prod Nat Blk)) (AV.tup [(AV.ag (([(AV.s x6)] ++ ([(AV.s x7)] ++ ([] : List AV) : (List AV)) : (List AV)) ++ ([(AV.i IntKind.i64 n13)] ++ ([(AV.s x8)] ++ ([(AV.i IntKind.i64 n14)] ++ ([(AV.i IntKind.i64 n15)] ++ ([(AV.i IntKind.i64 n16)] ++ ([(AV.i IntKind.i64 n17)] ++ ([] : List AV) : (List AV)) : (List AV)) : (List AV)) : (List AV)) : (List AV)) : (List AV)) : (List AV))), (AV.b x9)]) ([] : List (Prod Nat Blk))) ∧
 (brP (Bool.and (Bool.and (strEq x2 x6) (Bool.and (strEq x3 x7) Bool.true)) (Bool.and (decide (n8 = (n13 : Int))) (Bool.and (strEq x4 x8) (Bool.and (decide (n9 = (n14 : Int))) (Bool.and (decide (n10 = (n15 : Int))) (Bool.and (decide (n11 = (n16 : Int))) (Bool.and (decide (n12 = (n17 : Int))) Bool.true))))))) (brP (x5 == x9) (∃ n18 : Int, ((ACalls Try.prog 20 [(AV.ag [(AV.i IntKind.i64 n), (AV.i IntKind.i64 n1), (AV.i IntKind.i64 n2), (AV.sl xs)]), (AV.s (x).7)] ([] : List (Prod Nat Blk)) (AV.i IntKind.i64 n18) ([] : List (Prod Nat Blk))) ∧
 (∃ n19 : Int, ((ACalls Try.prog 21 [(AV.ag [(AV.i IntKind.i64 n4), (AV.i IntKind.i64 n5), (AV.i IntKind.i64 n6), (AV.sl xs1)]), (AV.s (x).7)] ([] : List (Prod Nat Blk)) (AV.i IntKind.i64 n19) ([] : List (Prod Nat Blk))) ∧
 ((Bool.true = (Bool.true : Bool)) ∧
 (((AV.tup [(AV.ag [(AV.i IntKind.i64 n), (AV.i IntKind.i64 n1), (AV.i IntKind.i64 n2), (AV.sl xs)]), (AV.ag [(AV.i IntKind.i64 n4), (AV.i IntKind.i64 n5), (AV.i IntKind.i64 n6), (AV.sl xs1)]), (AV.b (decide (n18 = (n19 : Int))))]) = (r : AV)) ∧
 (([] : List (Prod Nat Blk)) = (([] : List (Prod Nat Blk)) : Heap)))))))) ((Bool.true = (Bool.true : Bool)) ∧
 (((AV.tup [(AV.ag [(AV.i IntKind.i64 n), (AV.i IntKind.i64 n1), (AV.i IntKind.i64 n2), (AV.sl xs)]), (AV.ag [(AV.i IntKind.i64 n4), (AV.i IntKind.i64 n5), (AV.i IntKind.i64 n6), (AV.sl xs1)]), (AV.b Bool.false)]) = (r : AV)) ∧
 (([] : List (Prod Nat Blk)) = (([] : List (Prod Nat Blk)) : Heap))))) ((Bool.true = (Bool.true : Bool)) ∧
 (((AV.tup [(AV.ag [(AV.i IntKind.i64 n), (AV.i IntKind.i64 n1), (AV.i IntKind.i64 n2), (AV.sl xs)]), (AV.ag [(AV.i IntKind.i64 n4), (AV.i IntKind.i64 n5), (AV.i IntKind.i64 n6), (AV.sl xs1)]), (AV.b Bool.false)]) = (r : AV)) ∧
 (([] : List (Prod Nat Blk)) = (([] : List (Prod Nat Blk)) : Heap)))))))))))))))))))))))))) (∃ x2 : ByteArray, (∃ x3 : ByteArray, (∃ n8 : Int, (∃ x4 : ByteArray, (∃ n9 : Int, (∃ n10 : Int, (∃ n11 : Int, (∃ n12 : Int, (∃ x5 : Bool, ((ACalls Try.prog 22 [(AV.ag [(AV.i IntKind.i64 a), (AV.i IntKind.i64 b), (AV.i IntKind.i64 c), (AV.sl (Q.rowH l))]), (AV.ag [(AV.s (x).5), (AV.s (x).6)]), (AV.i IntKind.i64 (x).2), (AV.i IntKind.i64 (x).3)] ([] : List (Prod Nat Blk)) (AV.tup [(AV.ag (([(AV.s x2)] ++ ([(AV.s x3)] ++ ([] : List AV) : (List AV)) : (List AV)) ++ ([(AV.i IntKind.i64 n8)] ++ ([(AV.s x4)] ++ ([(AV.i IntKind.i64 n9)] ++ ([(AV.i IntKind.i64 n10)] ++ ([(AV.i IntKind.i64 n11)] ++ ([(AV.i IntKind.i64 n12)] ++ ([] : List AV) : (List AV)) : (List AV)) : (List AV)) : (List AV)) : (List AV)) : (List AV)) : (List AV))), (AV.b x5)]) ([] : List (Prod Nat Blk))) ∧
 (∃ x6 : ByteArray, (∃ x7 : ByteArray, (∃ n13 : Int, (∃ x8 : ByteArray, (∃ n14 : Int, (∃ n15 : Int, (∃ n16 : Int, (∃ n17 : Int, (∃ x9 : Bool, ((ACalls Try.prog 61 [(AV.ag [(AV.i IntKind.i64 a), (AV.i IntKind.i64 b), (AV.i IntKind.i64 c), (AV.sl (Q.rowH l))]), (AV.ag [(AV.s (x).5), (AV.s (x).6)]), (AV.i IntKind.i64 (x).2), (AV.i IntKind.i64 (x).3)] ([] : List (Prod Nat Blk)) (AV.tup [(AV.ag (([(AV.s x6)] ++ ([(AV.s x7)] ++ ([] : List AV) : (List AV)) : (List AV)) ++ ([(AV.i IntKind.i64 n13)] ++ ([(AV.s x8)] ++ ([(AV.i IntKind.i64 n14)] ++ ([(AV.i IntKind.i64 n15)] ++ ([(AV.i IntKind.i64 n16)] ++ ([(AV.i IntKind.i64 n17)] ++ ([] : List AV) : (List AV)) : (List AV)) : (List AV)) : (List AV)) : (List AV)) : (List AV)) : (List AV))), (AV.b x9)]) ([] : List (Prod Nat Blk))) ∧
 (brP (Bool.and (Bool.and (strEq x2 x6) (Bool.and (strEq x3 x7) Bool.true)) (Bool.and (decide (n8 = (n13 : Int))) (Bool.and (strEq x4 x8) (Bool.and (decide (n9 = (n14 : Int))) (Bool.and (decide (n10 = (n15 : Int))) (Bool.and (decide (n11 = (n16 : Int))) (Bool.and (decide (n12 = (n17 : Int))) Bool.true))))))) (brP (x5 == x9) (∃ n18 : Int, ((ACalls Try.prog 20 [(AV.ag [(AV.i IntKind.i64 a), (AV.i IntKind.i64 b), (AV.i IntKind.i64 c), (AV.sl (Q.rowH l))]), (AV.s (x).7)] ([] : List (Prod Nat Blk)) (AV.i IntKind.i64 n18) ([] : List (Prod Nat Blk))) ∧
 (∃ n19 : Int, ((ACalls Try.prog 21 [(AV.ag [(AV.i IntKind.i64 a), (AV.i IntKind.i64 b), (AV.i IntKind.i64 c), (AV.sl (Q.rowH l))]), (AV.s (x).7)] ([] : List (Prod Nat Blk)) (AV.i IntKind.i64 n19) ([] : List (Prod Nat Blk))) ∧
 ((Bool.true = (Bool.true : Bool)) ∧
 (((AV.tup [(AV.ag [(AV.i IntKind.i64 a), (AV.i IntKind.i64 b), (AV.i IntKind.i64 c), (AV.sl (Q.rowH l))]), (AV.ag [(AV.i IntKind.i64 a), (AV.i IntKind.i64 b), (AV.i IntKind.i64 c), (AV.sl (Q.rowH l))]), (AV.b (decide (n18 = (n19 : Int))))]) = (r : AV)) ∧
 (([] : List (Prod Nat Blk)) = (([] : List (Prod Nat Blk)) : Heap)))))))) ((Bool.true = (Bool.true : Bool)) ∧
 (((AV.tup [(AV.ag [(AV.i IntKind.i64 a), (AV.i IntKind.i64 b), (AV.i IntKind.i64 c), (AV.sl (Q.rowH l))]), (AV.ag [(AV.i IntKind.i64 a), (AV.i IntKind.i64 b), (AV.i IntKind.i64 c), (AV.sl (Q.rowH l))]), (AV.b Bool.false)]) = (r : AV)) ∧
 (([] : List (Prod Nat Blk)) = (([] : List (Prod Nat Blk)) : Heap))))) ((Bool.true = (Bool.true : Bool)) ∧
 (((AV.tup [(AV.ag [(AV.i IntKind.i64 a), (AV.i IntKind.i64 b), (AV.i IntKind.i64 c), (AV.sl (Q.rowH l))]), (AV.ag [(AV.i IntKind.i64 a), (AV.i IntKind.i64 b), (AV.i IntKind.i64 c), (AV.sl (Q.rowH l))]), (AV.b Bool.false)]) = (r : AV)) ∧
 (([] : List (Prod Nat Blk)) = (([] : List (Prod Nat Blk)) : Heap)))))))))))))))))))))))))))))))))))))))))) (∃ n : Int, (∃ n1 : Int, (∃ n2 : Int, (∃ xs : (List (List AV)), (∃ xs1 : (List (List AV)), (∃ n3 : Int, ((ACalls Try.prog 18 [(AV.ag [(AV.i IntKind.i64 a), (AV.i IntKind.i64 b), (AV.i IntKind.i64 c), (AV.sl (Q.rowH l))]), (AV.i IntKind.i64 (IntKind.wrap IntKind.i64 ((x).3 - (4 : Int) : Int)))] ([] : List (Prod Nat Blk)) (AV.tup [(AV.ag ([(AV.i IntKind.i64 n)] ++ ([(AV.i IntKind.i64 n1)] ++ ([(AV.i IntKind.i64 n2)] ++ ([(AV.sl xs)] ++ ([] : List AV) : (List AV)) : (List AV)) : (List AV)) : (List AV))), (AV.sl xs1), (AV.i IntKind.i64 n3)]) ([] : List (Prod Nat Blk))) ∧
 (∃ n4 : Int, (∃ n5 : Int, (∃ n6 : Int, (∃ xs2 : (List (List AV)), (∃ xs3 : (List (List AV)), (∃ n7 : Int, ((ACalls Try.prog 60 [(AV.ag [(AV.i IntKind.i64 a), (AV.i IntKind.i64 b), (AV.i IntKind.i64 c), (AV.sl (Q.rowH l))]), (AV.i IntKind.i64 (IntKind.wrap IntKind.i64 ((x).3 - (4 : Int) : Int)))] ([] : List (Prod Nat Blk)) (AV.tup [(AV.ag ([(AV.i IntKind.i64 n4)] ++ ([(AV.i IntKind.i64 n5)] ++ ([(AV.i IntKind.i64 n6)] ++ ([(AV.sl xs2)] ++ ([] : List AV) : (List AV)) : (List AV)) : (List AV)) : (List AV))), (AV.sl xs3), (AV.i IntKind.i64 n7)]) ([] : List (Prod Nat Blk))) ∧
 (∃ x1 : Bool, ((ACalls Try.prog 27 [(AV.sl xs1), (AV.sl xs3)] ([] : List (Prod Nat Blk)) (AV.b x1) ([] : List (Prod Nat Blk))) ∧
 (brP (!(decide (n3 = (n7 : Int)))) ((Bool.true = (Bool.true : Bool)) ∧
 (((AV.tup [(AV.ag [(AV.i IntKind.i64 a), (AV.i IntKind.i64 b), (AV.i IntKind.i64 c), (AV.sl (Q.rowH l))]), (AV.ag [(AV.i IntKind.i64 a), (AV.i IntKind.i64 b), (AV.i IntKind.i64 c), (AV.sl (Q.rowH l))]), (AV.b Bool.false)]) = (r : AV)) ∧
 (([] : List (Prod Nat Blk)) = (([] : List (Prod Nat Blk)) : Heap)))) (brP (!x1) ((Bool.true = (Bool.true : Bool)) ∧
 (((AV.tup [(AV.ag [(AV.i IntKind.i64 a), (AV.i IntKind.i64 b), (AV.i IntKind.i64 c), (AV.sl (Q.rowH l))]), (AV.ag [(AV.i IntKind.i64 a), (AV.i IntKind.i64 b), (AV.i IntKind.i64 c), (AV.sl (Q.rowH l))]), (AV.b Bool.false)]) = (r : AV)) ∧
 (([] : List (Prod Nat Blk)) = (([] : List (Prod Nat Blk)) : Heap)))) (∃ x2 : Bool, ((ACalls Try.prog 12 [(AV.ag [(AV.i IntKind.i64 n), (AV.i IntKind.i64 n1), (AV.i IntKind.i64 n2), (AV.sl xs)]), (AV.ag [(AV.i IntKind.i64 n4), (AV.i IntKind.i64 n5), (AV.i IntKind.i64 n6), (AV.sl xs2)])] ([] : List (Prod Nat Blk)) (AV.b x2) ([] : List (Prod Nat Blk))) ∧
 (brP (!x2) ((Bool.true = (Bool.true : Bool)) ∧
 (((AV.tup [(AV.ag [(AV.i IntKind.i64 a), (AV.i IntKind.i64 b), (AV.i IntKind.i64 c), (AV.sl (Q.rowH l))]), (AV.ag [(AV.i IntKind.i64 a), (AV.i IntKind.i64 b), (AV.i IntKind.i64 c), (AV.sl (Q.rowH l))]), (AV.b Bool.false)]) = (r : AV)) ∧
 (([] : List (Prod Nat Blk)) = (([] : List (Prod Nat Blk)) : Heap)))) (brP (decide (n3 = ((0 : Int) : Int))) ((Bool.true = (Bool.true : Bool)) ∧
 (∃ x3 : ByteArray, (∃ x4 : ByteArray, (∃ n8 : Int, (∃ x5 : ByteArray, (∃ n9 : Int, (∃ n10 : Int, (∃ n11 : Int, (∃ n12 : Int, (∃ x6 : Bool, ((ACalls Try.prog 22 [(AV.ag [(AV.i IntKind.i64 n), (AV.i IntKind.i64 n1), (AV.i IntKind.i64 n2), (AV.sl xs)]), (AV.ag [(AV.s (x).5), (AV.s (x).6)]), (AV.i IntKind.i64 (x).2), (AV.i IntKind.i64 (x).3)] ([] : List (Prod Nat Blk)) (AV.tup [(AV.ag (([(AV.s x3)] ++ ([(AV.s x4)] ++ ([] : List AV) : (List AV)) : (List AV)) ++ ([(AV.i IntKind.i64 n8)] ++ ([(AV.s x5)] ++ ([(AV.i IntKind.i64 n9)] ++ ([(AV.i IntKind.i64 n10)] ++ ([(AV.i IntKind.i64 n11)] ++ ([(AV.i IntKind.i64 n12)] ++ ([] : List AV) : (List AV)) : (List AV)) : (List AV)) : (List AV)) : (List AV)) : (List AV)) : (List AV))), (AV.b x6)]) ([] : List (Prod Nat Blk))) ∧
 (∃ x7 : ByteArray, (∃ x8 : ByteArray, (∃ n13 : Int, (∃ x9 : ByteArray, (∃ n14 : Int, (∃ n15 : Int, (∃ n16 : Int, (∃ n17 : Int, (∃ x10 : Bool, ((ACalls Try.prog 61 [(AV.ag [(AV.i IntKind.i64 n4), (AV.i IntKind.i64 n5), (AV.i IntKind.i64 n6), (AV.sl xs2)]), (AV.ag [(AV.s (x).5), (AV.s (x).6)]), (AV.i IntKind.i64 (x).2), (AV.i IntKind.i64 (x).3)] ([] : List (Prod Nat Blk)) (AV.tup [(AV.ag (([(AV.s x7)] ++ ([(AV.s x8)] ++ ([] : List AV) : (List AV)) : (List AV)) ++ ([(AV.i IntKind.i64 n13)] ++ ([(AV.s x9)] ++ ([(AV.i IntKind.i64 n14)] ++ ([(AV.i IntKind.i64 n15)] ++ ([(AV.i IntKind.i64 n16)] ++ ([(AV.i IntKind.i64 n17)] ++ ([] : List AV) : (List AV)) : (List AV)) : (List AV)) : (List AV)) : (List AV)) : (List AV)) : (List AV))), (AV.b x10)]) ([] : List (Prod Nat Blk))) ∧
 (brP (Bool.and (Bool.and (strEq x3 x7) (Bool.and (strEq x4 x8) Bool.true)) (Bool.and (decide (n8 = (n13 : Int))) (Bool.and (strEq x5 x9) (Bool.and (decide (n9 = (n14 : Int))) (Bool.and (decide (n10 = (n15 : Int))) (Bool.and (decide (n11 = (n16 : Int))) (Bool.and (decide (n12 = (n17 : Int))) Bool.true))))))) (brP (x6 == x10) (∃ n18 : Int, ((ACalls Try.prog 20 [(AV.ag [(AV.i IntKind.i64 n), (AV.i IntKind.i64 n1), (AV.i IntKind.i64 n2), (AV.sl xs)]), (AV.s (x).7)] ([] : List (Prod Nat Blk)) (AV.i IntKind.i64 n18) ([] : List (Prod Nat Blk))) ∧
 (∃ n19 : Int, ((ACalls Try.prog 21 [(AV.ag [(AV.i IntKind.i64 n4), (AV.i IntKind.i64 n5), (AV.i IntKind.i64 n6), (AV.sl xs2)]), (AV.s (x).7)] ([] : List (Prod Nat Blk)) (AV.i IntKind.i64 n19) ([] : List (Prod Nat Blk))) ∧
 ((Bool.true = (Bool.true : Bool)) ∧
 (((AV.tup [(AV.ag [(AV.i IntKind.i64 n), (AV.i IntKind.i64 n1), (AV.i IntKind.i64 n2), (AV.sl xs)]), (AV.ag [(AV.i IntKind.i64 n4), (AV.i IntKind.i64 n5), (AV.i IntKind.i64 n6), (AV.sl xs2)]), (AV.b (decide (n18 = (n19 : Int))))]) = (r : AV)) ∧
 (([] : List (Prod Nat Blk)) = (([] : List (Prod Nat Blk)) : Heap)))))))) ((Bool.true = (Bool.true : Bool)) ∧
 (((AV.tup [(AV.ag [(AV.i IntKind.i64 n), (AV.i IntKind.i64 n1), (AV.i IntKind.i64 n2), (AV.sl xs)]), (AV.ag [(AV.i IntKind.i64 n4), (AV.i IntKind.i64 n5), (AV.i IntKind.i64 n6), (AV.sl xs2)]), (AV.b Bool.false)]) = (r : AV)) ∧
 (([] : List (Prod Nat Blk)) = (([] : List (Prod Nat Blk)) : Heap))))) ((Bool.true = (Bool.true : Bool)) ∧
 (((AV.tup [(AV.ag [(AV.i IntKind.i64 n), (AV.i IntKind.i64 n1), (AV.i IntKind.i64 n2), (AV.sl xs)]), (AV.ag [(AV.i IntKind.i64 n4), (AV.i IntKind.i64 n5), (AV.i IntKind.i64 n6), (AV.sl xs2)]), (AV.b Bool.false)]) = (r : AV)) ∧
 (([] : List (Prod Nat Blk)) = (([] : List (Prod Nat Blk)) : Heap)))))))))))))))))))))))))) (∃ x3 : ByteArray, (∃ x4 : ByteArray, (∃ n8 : Int, (∃ x5 : ByteArray, (∃ n9 : Int, (∃ n10 : Int, (∃ n11 : Int, (∃ n12 : Int, (∃ x6 : Bool, ((ACalls Try.prog 22 [(AV.ag [(AV.i IntKind.i64 a), (AV.i IntKind.i64 b), (AV.i IntKind.i64 c), (AV.sl (Q.rowH l))]), (AV.ag [(AV.s (x).5), (AV.s (x).6)]), (AV.i IntKind.i64 (x).2), (AV.i IntKind.i64 (x).3)] ([] : List (Prod Nat Blk)) (AV.tup [(AV.ag (([(AV.s x3)] ++ ([(AV.s x4)] ++ ([] : List AV) : (List AV)) : (List AV)) ++ ([(AV.i IntKind.i64 n8)] ++ ([(AV.s x5)] ++ ([(AV.i IntKind.i64 n9)] ++ ([(AV.i IntKind.i64 n10)] ++ ([(AV.i IntKind.i64 n11)] ++ ([(AV.i IntKind.i64 n12)] ++ ([] : List AV) : (List AV)) : (List AV)) : (List AV)) : (List AV)) : (List AV)) : (List AV)) : (List AV))), (AV.b x6)]) ([] : List (Prod Nat Blk))) ∧
 (∃ x7 : ByteArray, (∃ x8 : ByteArray, (∃ n13 : Int, (∃ x9 : ByteArray, (∃ n14 : Int, (∃ n15 : Int, (∃ n16 : Int, (∃ n17 : Int, (∃ x10 : Bool, ((ACalls Try.prog 61 [(AV.ag [(AV.i IntKind.i64 a), (AV.i IntKind.i64 b), (AV.i IntKind.i64 c), (AV.sl (Q.rowH l))]), (AV.ag [(AV.s (x).5), (AV.s (x).6)]), (AV.i IntKind.i64 (x).2), (AV.i IntKind.i64 (x).3)] ([] : List (Prod Nat Blk)) (AV.tup [(AV.ag (([(AV.s x7)] ++ ([(AV.s x8)] ++ ([] : List AV) : (List AV)) : (List AV)) ++ ([(AV.i IntKind.i64 n13)] ++ ([(AV.s x9)] ++ ([(AV.i IntKind.i64 n14)] ++ ([(AV.i IntKind.i64 n15)] ++ ([(AV.i IntKind.i64 n16)] ++ ([(AV.i IntKind.i64 n17)] ++ ([] : List AV) : (List AV)) : (List AV)) : (List AV)) : (List AV)) : (List AV)) : (List AV)) : (List AV))), (AV.b x10)]) ([] : List (Prod Nat Blk))) ∧
 (brP (Bool.and (Bool.and (strEq x3 x7) (Bool.and (strEq x4 x8) Bool.true)) (Bool.and (decide (n8 = (n13 : Int))) (Bool.and (strEq x5 x9) (Bool.and (decide (n9 = (n14 : Int))) (Bool.and (decide (n10 = (n15 : Int))) (Bool.and (decide (n11 = (n16 : Int))) (Bool.and (decide (n12 = (n17 : Int))) Bool.true))))))) (brP (x6 == x10) (∃ n18 : Int, ((ACalls Try.prog 20 [(AV.ag [(AV.i IntKind.i64 a), (AV.i IntKind.i64 b), (AV.i IntKind.i64 c), (AV.sl (Q.rowH l))]), (AV.s (x).7)] ([] : List (Prod Nat Blk)) (AV.i IntKind.i64 n18) ([] : List (Prod Nat Blk))) ∧
 (∃ n19 : Int, ((ACalls Try.prog 21 [(AV.ag [(AV.i IntKind.i64 a), (AV.i IntKind.i64 b), (AV.i IntKind.i64 c), (AV.sl (Q.rowH l))]), (AV.s (x).7)] ([] : List (Prod Nat Blk)) (AV.i IntKind.i64 n19) ([] : List (Prod Nat Blk))) ∧
 ((Bool.true = (Bool.true : Bool)) ∧
 (((AV.tup [(AV.ag [(AV.i IntKind.i64 a), (AV.i IntKind.i64 b), (AV.i IntKind.i64 c), (AV.sl (Q.rowH l))]), (AV.ag [(AV.i IntKind.i64 a), (AV.i IntKind.i64 b), (AV.i IntKind.i64 c), (AV.sl (Q.rowH l))]), (AV.b (decide (n18 = (n19 : Int))))]) = (r : AV)) ∧
 (([] : List (Prod Nat Blk)) = (([] : List (Prod Nat Blk)) : Heap)))))))) ((Bool.true = (Bool.true : Bool)) ∧
 (((AV.tup [(AV.ag [(AV.i IntKind.i64 a), (AV.i IntKind.i64 b), (AV.i IntKind.i64 c), (AV.sl (Q.rowH l))]), (AV.ag [(AV.i IntKind.i64 a), (AV.i IntKind.i64 b), (AV.i IntKind.i64 c), (AV.sl (Q.rowH l))]), (AV.b Bool.false)]) = (r : AV)) ∧
 (([] : List (Prod Nat Blk)) = (([] : List (Prod Nat Blk)) : Heap))))) ((Bool.true = (Bool.true : Bool)) ∧
 (((AV.tup [(AV.ag [(AV.i IntKind.i64 a), (AV.i IntKind.i64 b), (AV.i IntKind.i64 c), (AV.sl (Q.rowH l))]), (AV.ag [(AV.i IntKind.i64 a), (AV.i IntKind.i64 b), (AV.i IntKind.i64 c), (AV.sl (Q.rowH l))]), (AV.b Bool.false)]) = (r : AV)) ∧
 (([] : List (Prod Nat Blk)) = (([] : List (Prod Nat Blk)) : Heap))))))))))))))))))))))))))))))))))))))))))))))))))))))
theorem vPlay_eq (a b c : Int) (l : List Held) (x : PCall) (r : AV) : vPlay a b c l x r = (evF Try.prog TT Try.f34 [] noK [qAV a b c (rowH l), qAV a b c (rowH l), .ag x.cells] [] [] r []) := by kernel_rfl

end Go.AM.Q
set_option maxRecDepth 100000
set_option linter.unusedVariables false
set_option linter.unusedSimpArgs false
namespace Go.AM.Q
open Go.Proofs
theorem cntO_sub {l m : List Held} (h : List.Sublist l m) (o : ByteArray) : cntO o l ≤ cntO o m := (h.filter _).length_le
theorem Good.sub {a c : Int} {l m : List Held} (h : List.Sublist l m) (g : Good a c m) : Good a c l :=
  ⟨fun x hx => g.ent x (h.subset hx), fun x hx => by
    have h1 := g.cnt x (h.subset hx)
    have h2 := cntO_sub h x.by'
    omega, g.rel.sublist h⟩
theorem check_sub {a b c : Int} {l m : List Held} (h : List.Sublist l m) (hc : checkB a b c m = true) : checkB a b c l = true := by
  rw [check_iff] at hc ⊢
  have := h.length_le
  exact ⟨hc.1, by omega, hc.2.2.sub h⟩
theorem Lt_of_same {a b a' b' : Held} (h1 : a.p = a'.p) (h2 : a.t = a'.t) (h3 : a.e = a'.e) (h4 : a.f = a'.f) (k1 : b.p = b'.p) (k2 : b.t = b'.t) (k3 : b.e = b'.e) (k4 : b.f = b'.f) (h : Lt a b) : Lt a' b' := by
  unfold Lt at *
  rw [← h1, ← h2, ← h3, ← h4, ← k1, ← k2, ← k3, ← k4]
  exact h
theorem cntO_set {l : List Held} {i : Nat} (hi : i < l.length) {y : Held} (hb : y.by' = l[i].by') (o : ByteArray) : cntO o (l.set i y) = cntO o l := by
  have e1 : l = l.take i ++ l[i] :: l.drop (i + 1) := by simp
  have e2 : l.set i y = l.take i ++ y :: l.drop (i + 1) := List.set_eq_take_append_cons_drop .. |>.trans (by simp [hi])
  rw [e2]
  conv => rhs; rw [e1]
  rw [cntO_app, cntO_app]
  simp only [cntO, List.filter_cons, hb]
  split <;> rfl
theorem check_set {a b c : Int} {l : List Held} {i : Nat} (hi : i < l.length) {y : Held} (hp : y.p = l[i].p) (ht : y.t = l[i].t) (he : y.e = l[i].e) (hf : y.f = l[i].f) (hb : y.by' = l[i].by') (hy : entryB c y = true)
    (hm : ∀ (k : Nat) (h : k < l.length), k ≠ i → meetsB l[k] y = false) (hc : checkB a b c l = true) : checkB a b c (l.set i y) = true := by
  rw [check_iff] at hc ⊢
  refine ⟨hc.1, by simpa using hc.2.1, fun x hx => ?_, fun x hx => ?_, ?_⟩
  · rcases List.mem_or_eq_of_mem_set hx with h | h
    · exact hc.2.2.ent x h
    · rw [h]; exact hy
  · rw [cntO_set hi hb]
    rcases List.mem_or_eq_of_mem_set hx with h | h
    · exact hc.2.2.cnt x h
    · rw [h, hb]; exact hc.2.2.cnt _ (List.getElem_mem hi)
  · have hr := hc.2.2.rel
    rw [List.pairwise_iff_getElem] at hr ⊢
    intro j k hj hk hjk
    have hj' : j < l.length := by simpa using hj
    have hk' : k < l.length := by simpa using hk
    have h0 := hr j k hj' hk' hjk
    simp only [List.getElem_set]
    by_cases h1 : i = j
    · subst h1
      have h2 : ¬ i = k := by omega
      simp only [if_true, h2, if_false]
      exact ⟨by rw [meetsB_comm]; exact hm k hk' (by omega), Lt_of_same hp.symm ht.symm he.symm hf.symm rfl rfl rfl rfl h0.2⟩
    · by_cases h2 : i = k
      · subst h2
        simp only [if_true, h1, if_false]
        exact ⟨hm j hj' (by omega), Lt_of_same rfl rfl rfl rfl hp.symm ht.symm he.symm hf.symm h0.2⟩
      · simp only [h1, h2, if_false]
        exact h0
theorem entry_parts {c : Int} {h : Held} (he : entryB c h = true) : whoB h = true ∧ 0 ≤ h.f ∧ h.f < h.u ∧ h.u ≤ 1073741824 ∧ 0 ≤ h.r ∧ h.r ≤ 1 ∧ 0 ≤ h.c ∧ h.c ≤ 1073741824 ∧ IntKind.i64.wrap (h.u - h.f) ≤ IntKind.i64.wrap (c * IntKind.i64.wrap (1 + h.r)) := by
  simp only [entryB, Bool.and_eq_true, decide_eq_true_eq, and_assoc] at he
  exact he
theorem entry_mk {c : Int} {h : Held} (he : whoB h = true ∧ 0 ≤ h.f ∧ h.f < h.u ∧ h.u ≤ 1073741824 ∧ 0 ≤ h.r ∧ h.r ≤ 1 ∧ 0 ≤ h.c ∧ h.c ≤ 1073741824 ∧ IntKind.i64.wrap (h.u - h.f) ≤ IntKind.i64.wrap (c * IntKind.i64.wrap (1 + h.r))) : entryB c h = true := by
  simp only [entryB, Bool.and_eq_true, decide_eq_true_eq, and_assoc]
  exact he
theorem sizes_c {a b c : Int} (h : sizesB a b c = true) : 1 ≤ a ∧ a ≤ b ∧ b ≤ 32 ∧ 1 ≤ c ∧ c ≤ 1073741824 := by
  simp only [sizesB, Bool.and_eq_true, decide_eq_true_eq, and_assoc] at h
  exact h
theorem check_charge {a b c : Int} {l : List Held} {i : Nat} (hi : i < l.length) (h0 : chgE l[i] = 0) (hc : checkB a b c l = true) : checkB a b c (l.set i (chgH l[i])) = true ∧ (chgH l[i]).c = l[i].c + 1 := by
  obtain ⟨h1, h2, h3⟩ := check_iff.1 hc
  obtain ⟨w, e1, e2, e3, e4, e5, e6, e7, e8⟩ := entry_parts (h3.ent _ (List.getElem_mem hi))
  have hne : decide (l[i].c = 1073741824) = false := by
    cases h : decide (l[i].c = 1073741824) with
    | false => rfl
    | true => simp only [chgE, h, cond_true] at h0; cases h0
  have hcc : l[i].c ≠ 1073741824 := by simpa using hne
  have hg : chgH l[i] = { l[i] with c := l[i].c + 1 } := by
    simp only [chgH, hne, cond_false]
    rw [wrap_id (by omega) (by omega)]
  refine ⟨?_, by rw [hg]⟩
  rw [hg]
  refine check_set hi rfl rfl rfl rfl rfl (entry_mk ⟨w, e1, e2, e3, e4, e5, ?_, ?_, e8⟩) (fun k hk hki => ?_) hc
  · show 0 ≤ l[i].c + 1
    omega
  · show l[i].c + 1 ≤ 1073741824
    omega
  · have hr := h3.rel
    rw [List.pairwise_iff_getElem] at hr
    rcases Nat.lt_or_ge k i with h | h
    · exact (hr k i hk hi h).1
    · have := (hr i k hi hk (by omega)).1
      rw [meetsB_comm] at this
      exact this
theorem check_renew {a b c : Int} {l : List Held} {i : Nat} (hi : i < l.length) {u n : Int} (hn : l[i].f ≤ n ∧ n < l[i].u) (h0 : renE c l l[i] u n = 0) (hc : checkB a b c l = true) : checkB a b c (l.set i (renH l[i] u)) = true := by
  obtain ⟨h1, h2, h3⟩ := check_iff.1 hc
  obtain ⟨w, e1, e2, e3, e4, e5, e6, e7, e8⟩ := entry_parts (h3.ent _ (List.getElem_mem hi))
  have hs := sizes_c h1
  unfold renE at h0
  cases k1 : decide (l[i].r = 1) with
  | true => rw [k1] at h0; simp at h0
  | false =>
    cases k2 : (decide (u ≤ l[i].u) || decide (1073741824 < u)) with
    | true => rw [k1, k2] at h0; simp at h0
    | false =>
      cases k3 : decide (c < IntKind.i64.wrap (u - n)) with
      | true => rw [k1, k2, k3] at h0; simp at h0
      | false =>
        cases k4 : l.any (renB l[i] (renH l[i] u)) with
        | true => rw [k1, k2, k3, k4] at h0; simp at h0
        | false =>
          simp only [Bool.or_eq_false_iff, decide_eq_false_iff_not] at k1 k2 k3
          have hr0 : l[i].r = 0 := by omega
          rw [hr0] at e8
          rw [wrap_id (by omega) (by omega)] at k3
          rw [wrap_id (n := 1 + 0) (by omega) (by omega), wrap_id (by omega) (by omega), wrap_id (by omega) (by omega)] at e8
          refine check_set hi rfl rfl rfl rfl rfl (entry_mk ⟨w, e1, ?_, ?_, ?_, ?_, e6, e7, ?_⟩) (fun k hk hki => ?_) hc
          · show l[i].f < u
            omega
          · show u ≤ 1073741824
            omega
          · show (0 : Int) ≤ 1
            omega
          · show (1 : Int) ≤ 1
            omega
          · show IntKind.i64.wrap (u - l[i].f) ≤ IntKind.i64.wrap (c * IntKind.i64.wrap (1 + 1))
            rw [wrap_id (n := 1 + 1) (by omega) (by omega), wrap_id (by omega) (by omega), wrap_id (by omega) (by omega)]
            omega
          · have := List.any_eq_false.1 k4 l[k] (List.getElem_mem hk)
            have hne : heldEq l[k] l[i] = false := by
              cases h : heldEq l[k] l[i] with
              | false => rfl
              | true => exact absurd ((rel_inj h3.rel i hi k hk).1 ((heldEq_iff _ _).1 h)) hki
            simp only [renB, hne, Bool.not_false, Bool.true_and, Bool.not_eq_true] at this
            rw [meetsB_comm]
            exact this
theorem check_add {a b c : Int} {l : List Held} {x : Held} (hr : x.r = 0) (hxc : x.c = 0) (h0 : addE a b c l x = 0) : checkB a b c l = true ∧ checkB a b c (addL l x) = true := by
  unfold addE at h0
  cases k1 : (!checkB a b c l || !whoB x) with
  | true => rw [k1] at h0; simp at h0
  | false =>
    cases k2 : (decide (x.f < 0) || decide (x.u ≤ x.f) || decide (1073741824 < x.u)) with
    | true => rw [k1, k2] at h0; simp at h0
    | false =>
      cases k3 : decide (c < IntKind.i64.wrap (x.u - x.f)) with
      | true => rw [k1, k2, k3] at h0; simp at h0
      | false =>
        cases k4 : l.any (meetsB x) with
        | true => rw [k1, k2, k3, k4] at h0; simp at h0
        | false =>
          cases k5 : decide ((l.length : Int) = b) with
          | true => rw [k1, k2, k3, k4, k5] at h0; simp at h0
          | false =>
            cases k6 : decide (loadI a b c l x.by' = a) with
            | true => rw [k1, k2, k3, k4, k5, k6] at h0; simp at h0
            | false =>
              have hc : checkB a b c l = true := by
                cases h : checkB a b c l with
                | true => rfl
                | false => rw [h] at k1; simp at k1
              have hw : whoB x = true := by
                cases h : whoB x with
                | true => rfl
                | false => rw [h] at k1; simp at k1
              refine ⟨hc, ?_⟩
              obtain ⟨h1, h2, h3⟩ := check_iff.1 hc
              have hs := sizes_c h1
              have hcq := cnt_eq hc x.by'
              rw [k6] at hcq
              simp only [Bool.or_eq_false_iff, decide_eq_false_iff_not] at k2 k3 k5 hcq
              rw [wrap_id (by omega) (by omega)] at k3
              have hfu : x.f < x.u := by omega
              have hm : ∀ y ∈ l, meetsB y x = false := fun y hy => by
                have := List.any_eq_false.1 k4 y hy
                rw [meetsB_comm]
                simpa using this
              have hent : entryB c x = true := by
                refine entry_mk ⟨hw, by omega, hfu, by omega, by omega, by omega, by omega, by omega, ?_⟩
                rw [hr, wrap_id (n := 1 + 0) (by omega) (by omega), wrap_id (by omega) (by omega), wrap_id (by omega) (by omega)]
                omega
              have hcn : ∀ o, cntO o (addL l x) = cntO o l + if x.by' = o then 1 else 0 := by
                intro o
                have e : cntO o l = cntO o (l.take (bsI l x)) + cntO o (l.drop (bsI l x)) := by rw [← cntO_app, List.take_append_drop]
                rw [addL, cntO_app, e]
                have e2 : cntO o (x :: l.drop (bsI l x)) = cntO o (l.drop (bsI l x)) + if x.by' = o then 1 else 0 := by
                  simp only [cntO, List.filter_cons]
                  by_cases h : x.by' = o
                  · simp [h, strEq_self]
                  · simp [h, strEq_ne.2 h]
                rw [e2]
                omega
              have hmem : ∀ y, y ∈ addL l x → y = x ∨ y ∈ l := by
                intro y hy
                rcases List.mem_append.1 hy with h | h
                · exact .inr (List.mem_of_mem_take h)
                · rcases List.mem_cons.1 h with h | h
                  · exact .inl h
                  · exact .inr (List.mem_of_mem_drop h)
              have hlen : (addL l x).length = l.length + 1 := by
                have hb := (bsF_le (ltAt l x) l.length 0 l.length (Nat.zero_le _)).2
                have : bsI l x ≤ l.length := hb
                simp only [addL, List.length_append, List.length_take, List.length_cons, List.length_drop]
                omega
              rw [check_iff]
              refine ⟨h1, by rw [hlen]; omega, fun y hy => ?_, fun y hy => ?_, ?_⟩
              · rcases hmem y hy with h | h
                · rw [h]; exact hent
                · exact h3.ent y h
              · rw [hcn]
                by_cases h : x.by' = y.by'
                · rw [if_pos h, ← h]
                  omega
                · rw [if_neg h]
                  rcases hmem y hy with h' | h'
                  · rw [h'] at h; exact absurd rfl h
                  · have := h3.cnt y h'
                    omega
              · have hlt : ∀ (k : Nat) (h : k < l.length), ltAt l x k = decide (compareI l[k] x < 0) := by
                  intro k h
                  simp [ltAt, h]
                have hp := h3.rel
                rw [List.pairwise_iff_getElem] at hp
                have hsp := bsF_spec (ltAt l x) l.length (fun h k hhk hk hpk => by
                  rw [hlt k hk, decide_eq_true_eq, cmp_lt] at hpk
                  rw [hlt h (by omega), decide_eq_true_eq, cmp_lt]
                  exact (hp h k (by omega) hk hhk).2.trans hpk) l.length 0 l.length (by omega) (Nat.zero_le _) (Nat.le_refl _) (by omega) (by omega)
                have hbef : ∀ y ∈ l.take (bsI l x), Rel y x := by
                  intro y hy
                  obtain ⟨k, hk, rfl⟩ := List.getElem_of_mem hy
                  have hk' : k < bsI l x ∧ k < l.length := by
                    rw [List.length_take] at hk
                    omega
                  have := hsp.1 k hk'.1
                  rw [hlt k hk'.2, decide_eq_true_eq, cmp_lt] at this
                  rw [List.getElem_take]
                  exact ⟨hm _ (List.getElem_mem hk'.2), this⟩
                have haft : ∀ y ∈ l.drop (bsI l x), Rel x y := by
                  intro y hy
                  obtain ⟨k, hk, rfl⟩ := List.getElem_of_mem hy
                  have hk' : bsI l x + k < l.length := by
                    rw [List.length_drop] at hk
                    omega
                  rw [List.getElem_drop]
                  have := hsp.2 (bsI l x + k) (by show bsI l x ≤ _; omega) hk'
                  rw [hlt _ hk', decide_eq_false_iff_not, cmp_lt] at this
                  have hmm := hm _ (List.getElem_mem hk')
                  refine ⟨by rw [meetsB_comm]; exact hmm, ?_⟩
                  rcases Lt.total x l[bsI l x + k] with h | h | h
                  · exact h
                  · exact absurd h this
                  · exfalso
                    have hy2 := entry_fu (h3.ent _ (List.getElem_mem hk'))
                    rw [cmp_eq0] at h
                    rw [← Bool.not_eq_true, meetsB_iff] at hmm
                    exact hmm ⟨h.1.symm, h.2.1.symm, h.2.2.1.symm, by omega, by omega⟩
                unfold addL
                rw [List.pairwise_append, List.pairwise_cons]
                have hall := h3.rel
                rw [← List.take_append_drop (bsI l x) l, List.pairwise_append] at hall
                refine ⟨hall.1, ⟨haft, hall.2.1⟩, fun y hy z hz => ?_⟩
                rcases List.mem_cons.1 hz with h | h
                · rw [h]; exact hbef y hy
                · exact hall.2.2 y hy z h
end Go.AM.Q
set_option maxRecDepth 100000
set_option linter.unusedVariables false
set_option linter.unusedSimpArgs false
namespace Go.AM.Q
open Go.Proofs
theorem brI {x : Bool} {A B : Prop} (h : x = true → A) (k : x = false → B) : brP x A B := brP_iff.2 ⟨h, k⟩
/-- An owner that no draw gives. -/
def kNew : ByteArray := ⟨⟨[110, 101, 119, 32, 111, 119, 110, 101, 114]⟩⟩
theorem ne_kNew {x : ByteArray} (h : x.data.toList ≠ kNew.data.toList) : x ≠ kNew := fun e => h (by rw [e])
theorem draw_calls (ls : List Int) (m : Nat) (k : Int) (hm : m < 1048576) :
    ∃ (x : PCall) (m' : Nat), ACalls Try.prog 35 [.ptr 0 0, .i .i64 k] (tpB ls m) (.ag x.cells) (tpB ls m') ∧ m ≤ m' ∧ m' ≤ m + 16 ∧ x.p = kP ∧ x.o ≠ kNew := by
  obtain ⟨i1, h1, c3⟩ := one_calls ls [⟨⟨[116]⟩⟩, ⟨⟨[117]⟩⟩, ⟨⟨[118]⟩⟩] (m + 1 + 1) (by omega) (by simp) (by simp)
  obtain ⟨i2, h2, c4⟩ := one_calls ls [⟨⟨[97, 110, 110]⟩⟩, ⟨⟨[98, 111, 98]⟩⟩, ⟨⟨[101, 118, 101]⟩⟩] (m + 1 + 1 + 1) (by omega) (by simp) (by simp)
  have c1 := next_calls ls m 8 (by omega) (by omega)
  have c2 := next_calls ls (m + 1) 2 (by omega) (by omega)
  have c5 := next_calls ls (m + 1 + 1 + 1 + 1) 6 (by omega) (by omega)
  have c6 := next_calls ls (m + 1 + 1 + 1 + 1 + 1) 9 (by omega) (by omega)
  have c7 := next_calls ls (m + 1 + 1 + 1 + 1 + 1 + 1) 30 (by omega) (by omega)
  obtain ⟨i8, h8, c8⟩ := one_calls ls [⟨⟨[]⟩⟩, ⟨⟨[97, 32, 110, 97, 109, 101, 32, 116, 104, 97, 116, 32, 104, 97, 115, 32, 109, 111, 114, 101, 32, 116, 104, 97, 110, 32, 50, 52, 32, 98, 121, 116, 101, 115]⟩⟩] (m + 1 + 1 + 1 + 1 + 1 + 1 + 1) (by omega) (by simp) (by simp)
  obtain ⟨i9, h9, c9⟩ := pick_calls ls [-1, 64] (m + 1 + 1 + 1 + 1 + 1 + 1 + 1) (by omega) (by simp) (by simp)
  have c10 := next_calls ls (m + 1 + 1 + 1 + 1 + 1 + 1 + 1) 3 (by omega) (by omega)
  have c11 := next_calls ls (m + 1 + 1 + 1 + 1 + 1 + 1 + 1 + 1) 3 (by omega) (by omega)
  have o1 : ([⟨⟨[97, 110, 110]⟩⟩, ⟨⟨[98, 111, 98]⟩⟩, ⟨⟨[101, 118, 101]⟩⟩] : List ByteArray)[i2] ≠ kNew := by
    apply ne_kNew
    simp only [List.length_cons, List.length_nil] at h2
    match i2, h2 with
    | 0, _ => simp [kNew]
    | 1, _ => simp [kNew]
    | 2, _ => simp [kNew]
  have o2 : ([⟨⟨[]⟩⟩, ⟨⟨[97, 32, 110, 97, 109, 101, 32, 116, 104, 97, 116, 32, 104, 97, 115, 32, 109, 111, 114, 101, 32, 116, 104, 97, 110, 32, 50, 52, 32, 98, 121, 116, 101, 115]⟩⟩] : List ByteArray)[i8] ≠ kNew := by
    apply ne_kNew
    simp only [List.length_cons, List.length_nil] at h8
    match i8, h8 with
    | 0, _ => simp [kNew]
    | 1, _ => simp [kNew]
  generalize ([⟨⟨[116]⟩⟩, ⟨⟨[117]⟩⟩, ⟨⟨[118]⟩⟩] : List ByteArray)[i1] = s1 at *
  generalize ([⟨⟨[97, 110, 110]⟩⟩, ⟨⟨[98, 111, 98]⟩⟩, ⟨⟨[101, 118, 101]⟩⟩] : List ByteArray)[i2] = s2 at *
  generalize ([⟨⟨[]⟩⟩, ⟨⟨[97, 32, 110, 97, 109, 101, 32, 116, 104, 97, 116, 32, 104, 97, 115, 32, 109, 111, 114, 101, 32, 116, 104, 97, 110, 32, 50, 52, 32, 98, 121, 116, 101, 115]⟩⟩] : List ByteArray)[i8] = s8 at *
  generalize ([-1, 64] : List Int)[i9] = s9 at *
  generalize nextI ls m 8 = r1 at *
  generalize nextI ls (m + 1) 2 = r2 at *
  generalize nextI ls (m + 1 + 1 + 1 + 1) 6 = r5 at *
  generalize nextI ls (m + 1 + 1 + 1 + 1 + 1) 9 = r6 at *
  generalize nextI ls (m + 1 + 1 + 1 + 1 + 1 + 1) 30 = r7 at *
  generalize nextI ls (m + 1 + 1 + 1 + 1 + 1 + 1 + 1) 3 = r10 at *
  generalize nextI ls (m + 1 + 1 + 1 + 1 + 1 + 1 + 1 + 1) 3 = r11 at *
  by_cases d0 : r7 = 0
  · refine ⟨⟨r1, r2, IntKind.i64.wrap (IntKind.i64.wrap (k + r5) - 1), IntKind.i64.wrap (IntKind.i64.wrap (IntKind.i64.wrap (IntKind.i64.wrap (k + r5) - 1) + r6) - 1), kP, s1, s8⟩, m + 1 + 1 + 1 + 1 + 1 + 1 + 1 + 1, acalls_vc (vDraw_eq ls m k _ _) (by kernel_rfl) (by kernel_rfl) noK_runs ?_, ?_, ?_, rfl, o2⟩
    · unfold vDraw
      exact ⟨_, _, c1, _, _, c2, _, _, c3, _, _, c4, _, _, c5, _, _, c6, rfl, _, _, c7, brI (fun _ => ⟨_, _, c8, rfl, rfl⟩) (fun h => absurd h (by simp [d0]))⟩
    · omega
    · omega
  by_cases d1 : r7 = 1
  · refine ⟨⟨r1, s9, IntKind.i64.wrap (IntKind.i64.wrap (k + r5) - 1), IntKind.i64.wrap (IntKind.i64.wrap (IntKind.i64.wrap (IntKind.i64.wrap (k + r5) - 1) + r6) - 1), kP, s1, s2⟩, m + 1 + 1 + 1 + 1 + 1 + 1 + 1 + 1, acalls_vc (vDraw_eq ls m k _ _) (by kernel_rfl) (by kernel_rfl) noK_runs ?_, ?_, ?_, rfl, o1⟩
    · unfold vDraw
      exact ⟨_, _, c1, _, _, c2, _, _, c3, _, _, c4, _, _, c5, _, _, c6, rfl, _, _, c7, brI (fun h => absurd h (by simp [d0])) (fun h => brI (fun _ => ⟨_, _, c9, rfl, rfl⟩) (fun h => absurd h (by simp [d1])))⟩
    · omega
    · omega
  by_cases d2 : r7 = 2
  · refine ⟨⟨r1, r2, IntKind.i64.wrap (1073741824 - r10), IntKind.i64.wrap (IntKind.i64.wrap (1073741824 + r11) - 1), kP, s1, s2⟩, m + 1 + 1 + 1 + 1 + 1 + 1 + 1 + 1 + 1, acalls_vc (vDraw_eq ls m k _ _) (by kernel_rfl) (by kernel_rfl) noK_runs ?_, ?_, ?_, rfl, o1⟩
    · unfold vDraw
      exact ⟨_, _, c1, _, _, c2, _, _, c3, _, _, c4, _, _, c5, _, _, c6, rfl, _, _, c7, brI (fun h => absurd h (by simp [d0])) (fun h => brI (fun h => absurd h (by simp [d1])) (fun h => brI (fun _ => ⟨_, _, c10, _, _, c11, rfl, rfl⟩) (fun h => absurd h (by simp [d2]))))⟩
    · omega
    · omega
  · refine ⟨⟨r1, r2, IntKind.i64.wrap (IntKind.i64.wrap (k + r5) - 1), IntKind.i64.wrap (IntKind.i64.wrap (IntKind.i64.wrap (IntKind.i64.wrap (k + r5) - 1) + r6) - 1), kP, s1, s2⟩, m + 1 + 1 + 1 + 1 + 1 + 1 + 1, acalls_vc (vDraw_eq ls m k _ _) (by kernel_rfl) (by kernel_rfl) noK_runs ?_, ?_, ?_, rfl, o1⟩
    · unfold vDraw
      exact ⟨_, _, c1, _, _, c2, _, _, c3, _, _, c4, _, _, c5, _, _, c6, rfl, _, _, c7, brI (fun h => absurd h (by simp [d0])) (fun h => brI (fun h => absurd h (by simp [d1])) (fun h => brI (fun h => absurd h (by simp [d2])) (fun _ => ⟨rfl, rfl⟩)))⟩
    · omega
    · omega
theorem begin_calls (ls : List Int) (m : Nat) (hm : m < 1048576) :
    ∃ (a b c : Int), ACalls Try.prog 32 [.ptr 0 0] (tpB ls m) (.tup [qAV a b c (rowH []), qAV a b c (rowH []), .b true]) (tpB ls (m + 1 + 1 + 1 : Nat)) ∧ sizesB a b c = true := by
  have c1 := next_calls ls m 5 (by omega) (by omega)
  have r1 : 0 ≤ nextI ls m 5 ∧ nextI ls m 5 < 5 := by
    have := foldI_rng (tapeV ls m) 5
    unfold nextI
    omega
  generalize nextI ls m 5 = n1 at *
  have e1 : IntKind.i64.wrap (1 + n1) = 1 + n1 := wrap_id (by omega) (by omega)
  have c2 := next_calls ls (m + 1) (1 + n1) (by omega) (by omega)
  rw [show AV.i .i64 (1 + n1) = AV.i .i64 (IntKind.i64.wrap (1 + n1)) by rw [e1]] at c2
  have r2 : 0 ≤ nextI ls (m + 1) (1 + n1) ∧ nextI ls (m + 1) (1 + n1) < 1 + n1 := by
    have := foldI_rng (tapeV ls (m + 1)) (1 + n1)
    unfold nextI
    omega
  generalize nextI ls (m + 1) (1 + n1) = n2 at *
  have c3 := next_calls ls (m + 1 + 1) 9 (by omega) (by omega)
  have r3 : 0 ≤ nextI ls (m + 1 + 1) 9 ∧ nextI ls (m + 1 + 1) 9 < 9 := by
    have := foldI_rng (tapeV ls (m + 1 + 1)) 9
    unfold nextI
    omega
  generalize nextI ls (m + 1 + 1) 9 = n3 at *
  have e2 : IntKind.i64.wrap (1 + n2) = 1 + n2 := wrap_id (by omega) (by omega)
  have e3 : IntKind.i64.wrap (1 + n3) = 1 + n3 := wrap_id (by omega) (by omega)
  have hs : sizesB (1 + n2) (1 + n1) (1 + n3) = true := by
    simp only [sizesB, Bool.and_eq_true, decide_eq_true_eq]
    omega
  have k1 := new_calls (1 + n2) (1 + n1) (1 + n3)
  have k2 := new2_calls (1 + n2) (1 + n1) (1 + n3)
  rw [newR, hs] at k1 k2
  rw [show [AV.i .i64 (1 + n2), AV.i .i64 (1 + n1), AV.i .i64 (1 + n3)] = [AV.i .i64 (IntKind.i64.wrap (1 + n2)), AV.i .i64 (IntKind.i64.wrap (1 + n1)), AV.i .i64 (IntKind.i64.wrap (1 + n3))] by rw [e1, e2, e3]] at k1 k2
  refine ⟨1 + n2, 1 + n1, 1 + n3, acalls_vc (vBegin_eq ls m _ _) (by kernel_rfl) (by kernel_rfl) noK_runs ?_, hs⟩
  simp only [vBegin, brP_iff]
  exact ⟨_, _, c1, _, _, c2, _, _, c3, _, _, _, _, _, k1, _, _, _, _, _, k2, fun _ => ⟨fun _ => ⟨true, same_self _ _ _ [] (by decide), by trivial, rfl, rfl⟩, fun h => by simp at h⟩, fun h => by simp at h⟩
end Go.AM.Q
set_option maxRecDepth 100000
set_option linter.unusedVariables false
set_option linter.unusedSimpArgs false
namespace Go.AM.Q
open Go.Proofs
def playNo (q : AV) (r : AV) : Prop := true = true ∧ (AV.tup [q, q, .b false] = r ∧ ([] : Heap) = [])
/-- What comes behind a call: both are asked who is active, and for the owner's load. -/
def playT (q1 q2 : AV) (x : PCall) (r : AV) : Prop :=
  ∃ x2 x3 : ByteArray, ∃ n8 : Int, ∃ x4 : ByteArray, ∃ n9 n10 n11 n12 : Int, ∃ x5 : Bool,
    ACalls Try.prog 22 [q1, .ag [.s x.p, .s x.t], .i .i64 x.e, .i .i64 x.a] [] (.tup [.ag (([.s x2] ++ ([.s x3] ++ [])) ++ ([.i .i64 n8] ++ ([.s x4] ++ ([.i .i64 n9] ++ ([.i .i64 n10] ++ ([.i .i64 n11] ++ ([.i .i64 n12] ++ []))))))), .b x5]) [] ∧
    ∃ x6 x7 : ByteArray, ∃ n13 : Int, ∃ x8 : ByteArray, ∃ n14 n15 n16 n17 : Int, ∃ x9 : Bool,
      ACalls Try.prog 61 [q2, .ag [.s x.p, .s x.t], .i .i64 x.e, .i .i64 x.a] [] (.tup [.ag (([.s x6] ++ ([.s x7] ++ [])) ++ ([.i .i64 n13] ++ ([.s x8] ++ ([.i .i64 n14] ++ ([.i .i64 n15] ++ ([.i .i64 n16] ++ ([.i .i64 n17] ++ []))))))), .b x9]) [] ∧
      brP (Bool.and (Bool.and (strEq x2 x6) (Bool.and (strEq x3 x7) true)) (Bool.and (decide (n8 = n13)) (Bool.and (strEq x4 x8) (Bool.and (decide (n9 = n14)) (Bool.and (decide (n10 = n15)) (Bool.and (decide (n11 = n16)) (Bool.and (decide (n12 = n17)) true)))))))
        (brP (x5 == x9)
          (∃ n18 : Int, ACalls Try.prog 20 [q1, .s x.o] [] (.i .i64 n18) [] ∧ ∃ n19 : Int, ACalls Try.prog 21 [q2, .s x.o] [] (.i .i64 n19) [] ∧
            (true = true ∧ (AV.tup [q1, q2, .b (decide (n18 = n19))] = r ∧ ([] : Heap) = [])))
          (true = true ∧ (AV.tup [q1, q2, .b false] = r ∧ ([] : Heap) = [])))
        (true = true ∧ (AV.tup [q1, q2, .b false] = r ∧ ([] : Heap) = []))
def playS (q : AV) (x : PCall) (r : AV) (n n1 n2 : Int) (xs : List (List AV)) (n3 n4 n5 n6 : Int) (xs1 : List (List AV)) : Prop :=
  ∃ x1 : Bool, ACalls Try.prog 12 [.ag [.i .i64 n, .i .i64 n1, .i .i64 n2, .sl xs], .ag [.i .i64 n4, .i .i64 n5, .i .i64 n6, .sl xs1]] [] (.b x1) [] ∧
    brP (!x1) (playNo q r) (brP (decide (n3 = 0)) (true = true ∧ playT (.ag [.i .i64 n, .i .i64 n1, .i .i64 n2, .sl xs]) (.ag [.i .i64 n4, .i .i64 n5, .i .i64 n6, .sl xs1]) x r) (playT q q x r))
def playB (A B : AV → Prop) (q : AV) (x : PCall) (r : AV) : Prop :=
  ∃ n n1 n2 : Int, ∃ xs : List (List AV), ∃ n3 : Int, A (.tup [.ag ([.i .i64 n] ++ ([.i .i64 n1] ++ ([.i .i64 n2] ++ ([.sl xs] ++ [])))), .i .i64 n3]) ∧
  ∃ n4 n5 n6 : Int, ∃ xs1 : List (List AV), ∃ n7 : Int, B (.tup [.ag ([.i .i64 n4] ++ ([.i .i64 n5] ++ ([.i .i64 n6] ++ ([.sl xs1] ++ [])))), .i .i64 n7]) ∧
  brP (!decide (n3 = n7)) (playNo q r) (playS q x r n n1 n2 xs n3 n4 n5 n6 xs1)
def playE (q : AV) (x : PCall) (r : AV) : Prop :=
  ∃ n n1 n2 : Int, ∃ xs xs1 : List (List AV), ∃ n3 : Int, ACalls Try.prog 18 [q, .i .i64 (IntKind.i64.wrap (x.a - 4))] [] (.tup [.ag ([.i .i64 n] ++ ([.i .i64 n1] ++ ([.i .i64 n2] ++ ([.sl xs] ++ [])))), .sl xs1, .i .i64 n3]) [] ∧
  ∃ n4 n5 n6 : Int, ∃ xs2 xs3 : List (List AV), ∃ n7 : Int, ACalls Try.prog 60 [q, .i .i64 (IntKind.i64.wrap (x.a - 4))] [] (.tup [.ag ([.i .i64 n4] ++ ([.i .i64 n5] ++ ([.i .i64 n6] ++ ([.sl xs2] ++ [])))), .sl xs3, .i .i64 n7]) [] ∧
  ∃ x1 : Bool, ACalls Try.prog 27 [.sl xs1, .sl xs3] [] (.b x1) [] ∧
  brP (!decide (n3 = n7)) (playNo q r) (brP (!x1) (playNo q r) (playS q x r n n1 n2 xs n3 n4 n5 n6 xs2))
theorem activeR_form (a b c : Int) (l : List Held) (m : Mom) : ∃ (h : Held) (y : Bool), activeR a b c l m = .tup [.ag h.cells, .b y] := by
  unfold activeR
  cases checkB a b c l with
  | false => exact ⟨_, _, rfl⟩
  | true =>
    cases l.find? (heldB m) with
    | none => exact ⟨_, _, rfl⟩
    | some h => exact ⟨_, _, rfl⟩
theorem playT_ok (a b c : Int) (l : List Held) (x : PCall) : playT (qAV a b c (rowH l)) (qAV a b c (rowH l)) x (.tup [qAV a b c (rowH l), qAV a b c (rowH l), .b true]) := by
  obtain ⟨h, y, e⟩ := activeR_form a b c l ⟨x.p, x.t, x.e, x.a⟩
  have h1 := active_calls a b c l ⟨x.p, x.t, x.e, x.a⟩
  have h2 := active2_calls a b c l ⟨x.p, x.t, x.e, x.a⟩
  rw [e] at h1 h2
  refine ⟨h.p, h.t, h.e, h.by', h.f, h.u, h.r, h.c, y, h1, h.p, h.t, h.e, h.by', h.f, h.u, h.r, h.c, y, h2, brI (fun _ => brI (fun _ => ⟨_, load_calls a b c l x.o, _, load2_calls a b c l x.o, rfl, ?_, rfl⟩) (fun h => ?_)) (fun h => ?_)⟩
  · simp
  · simp at h
  · simp [strEq_self] at h
theorem playB_ok {A B : AV → Prop} {a b c : Int} {l : List Held} (x : PCall) (q : AV) (hl : l.length < 4294967296) (hA : A (okQ a b c l)) (hB : B (okQ a b c l)) :
    playB A B q x (.tup [qAV a b c (rowH l), qAV a b c (rowH l), .b true]) :=
  ⟨a, b, c, rowH l, 0, hA, a, b, c, rowH l, 0, hB, brI (fun h => by simp at h) (fun _ => ⟨true, same_self a b c l (by omega), brI (fun h => by simp at h) (fun _ => brI (fun _ => ⟨rfl, playT_ok a b c l x⟩) (fun h => by simp at h))⟩)⟩
theorem playB_err {A B : AV → Prop} {a b c : Int} {l : List Held} (x : PCall) {n : Int} (hn : n ≠ 0) (hA : A (errQ n)) (hB : B (errQ n)) :
    playB A B (qAV a b c (rowH l)) x (.tup [qAV a b c (rowH l), qAV a b c (rowH l), .b true]) :=
  ⟨0, 0, 0, [], n, hA, 0, 0, 0, [], n, hB, brI (fun h => by simp at h) (fun _ => ⟨true, same_self 0 0 0 [] (by decide), brI (fun h => by simp at h) (fun _ => brI (fun h => by simp [hn] at h) (fun _ => playT_ok a b c l x))⟩)⟩
theorem playE_ok {a b c : Int} {l : List Held} (x : PCall) (hc : checkB a b c l = true) :
    playE (qAV a b c (rowH l)) x (.tup [qAV a b c (rowH (l.filter fun h => !decide (h.u ≤ IntKind.i64.wrap (x.a - 4)))), qAV a b c (rowH (l.filter fun h => !decide (h.u ≤ IntKind.i64.wrap (x.a - 4)))), .b true]) := by
  have h1 := expire_calls a b c l (IntKind.i64.wrap (x.a - 4))
  have h2 := expire2_calls a b c l (IntKind.i64.wrap (x.a - 4))
  have hl := ck_len hc
  have f1 := List.length_filter_le (fun h : Held => !decide (h.u ≤ IntKind.i64.wrap (x.a - 4))) l
  have f2 := List.length_filter_le (fun h : Held => decide (h.u ≤ IntKind.i64.wrap (x.a - 4))) l
  rw [expR, hc] at h1 h2
  have h3 := sl_calls (l.filter fun h => decide (h.u ≤ IntKind.i64.wrap (x.a - 4))) (l.filter fun h => decide (h.u ≤ IntKind.i64.wrap (x.a - 4))) (by omega)
  rw [(listEq_iff _ _).2 rfl] at h3
  exact ⟨_, _, _, _, _, _, h1, _, _, _, _, _, _, h2, true, h3, brI (fun h => by simp at h) (fun _ => brI (fun h => by simp at h) (fun _ => ⟨true, same_self a b c _ (by omega), brI (fun h => by simp at h) (fun _ => brI (fun _ => ⟨rfl, playT_ok a b c _ x⟩) (fun h => by simp at h))⟩))⟩
/-! ### What the plays keep -/
structure Inv (a b c : Int) (k : Int) (l : List Held) : Prop where
  chk : checkB a b c l = true
  pkg : ∀ y ∈ l, y.p = kP
  own : ∀ y ∈ l, y.by' ≠ kNew
  chg : ∀ y ∈ l, y.c ≤ k
theorem Inv.sub {a b c k : Int} {l m : List Held} (h : Inv a b c k m) (hs : List.Sublist l m) : Inv a b c (k + 1) l :=
  ⟨check_sub hs h.chk, fun y hy => h.pkg y (hs.subset hy), fun y hy => h.own y (hs.subset hy), fun y hy => by have := h.chg y (hs.subset hy); omega⟩
theorem Inv.set {a b c k : Int} {l : List Held} (h : Inv a b c k l) {i : Nat} (hi : i < l.length) {y : Held} (hc : checkB a b c (l.set i y) = true) (hp : y.p = l[i].p) (ho : y.by' = l[i].by') (hk : y.c ≤ k + 1) : Inv a b c (k + 1) (l.set i y) := by
  refine ⟨hc, fun z hz => ?_, fun z hz => ?_, fun z hz => ?_⟩ <;> rcases List.mem_or_eq_of_mem_set hz with h1 | h1
  · exact h.pkg z h1
  · rw [h1, hp]; exact h.pkg _ (List.getElem_mem hi)
  · exact h.own z h1
  · rw [h1, ho]; exact h.own _ (List.getElem_mem hi)
  · have := h.chg z h1; omega
  · rw [h1]; exact hk
theorem Inv.nil {a b c : Int} (h : sizesB a b c = true) : Inv a b c 0 [] := ⟨check_nil h, by simp, by simp, by simp⟩
theorem add_out (a b c : Int) (l : List Held) (x : Held) : (addE a b c l x = 0 ∧ addR a b c l x = okQ a b c (addL l x)) ∨ ∃ n, n ≠ 0 ∧ addR a b c l x = errQ n := by
  by_cases h : addE a b c l x = 0
  · exact .inl ⟨h, by simp [addR, h]⟩
  · exact .inr ⟨_, h, by simp [addR, h]⟩
theorem ch_out (a b c : Int) (l : List Held) (m : Mom) (e : Held → Int) (g : Held → Held) (keep : Bool) :
    (∃ i, ∃ hi : i < l.length, heldB m l[i] = true ∧ e l[i] = 0 ∧ chR a b c l m e g keep = okQ a b c (bif keep then l.set i (g l[i]) else l.take i ++ l.drop (i + 1))) ∨ ∃ n, n ≠ 0 ∧ chR a b c l m e g keep = errQ n := by
  unfold chR
  cases hc : checkB a b c l with
  | false => exact .inr ⟨1, by omega, rfl⟩
  | true =>
    rcases idxP_find (heldB m) l 0 (Int.le_refl 0) with ⟨h3, h4⟩ | ⟨x, i, h3, h4, h5, h6⟩
    · rw [h3]
      exact .inr ⟨18, by omega, rfl⟩
    · obtain ⟨hi, hx⟩ := List.getElem?_eq_some_iff.1 h5
      rw [h3]
      by_cases h : e x = 0
      · refine .inl ⟨i, hi, ?_, by rw [hx]; exact h, ?_⟩
        · rw [hx]; exact List.find?_some h3
        · simp [h, ← h6, hx]
      · exact .inr ⟨e x, h, by simp [h]⟩
theorem play_calls (a b c k : Int) (l : List Held) (x : PCall) (hI : Inv a b c k l) (hk : 0 ≤ k) (hp : x.p = kP) (ho : x.o ≠ kNew) :
    ∃ l', ACalls Try.prog 34 [qAV a b c (rowH l), qAV a b c (rowH l), .ag x.cells] [] (.tup [qAV a b c (rowH l'), qAV a b c (rowH l'), .b true]) [] ∧ Inv a b c (k + 1) l' := by
  have hl := ck_len hI.chk
  have hself : Inv a b c (k + 1) l := hI.sub (List.Sublist.refl l)
  -- each kind of call
  have ADD : ∃ l', playB (fun v => ACalls Try.prog 24 [qAV a b c (rowH l), .ag [.s x.p, .s x.t], .i .i64 x.e, .s x.o, .i .i64 x.a, .i .i64 x.b] [] v []) (fun v => ACalls Try.prog 56 [qAV a b c (rowH l), .ag [.s x.p, .s x.t], .i .i64 x.e, .s x.o, .i .i64 x.a, .i .i64 x.b] [] v [])
      (qAV a b c (rowH l)) x (.tup [qAV a b c (rowH l'), qAV a b c (rowH l'), .b true]) ∧ Inv a b c (k + 1) l' := by
    have h1 := add_calls a b c l x.p x.t x.e x.o x.a x.b
    have h2 := add2Q_calls a b c l x.p x.t x.e x.o x.a x.b
    rcases add_out a b c l ⟨x.p, x.t, x.e, x.o, x.a, x.b, 0, 0⟩ with ⟨h0, h3⟩ | ⟨n, h0, h3⟩
    · have hc := (check_add rfl rfl h0).2
      rw [h3] at h1 h2
      have hl2 := ck_len hc
      have hmem : ∀ y, y ∈ addL l ⟨x.p, x.t, x.e, x.o, x.a, x.b, 0, 0⟩ → y = ⟨x.p, x.t, x.e, x.o, x.a, x.b, 0, 0⟩ ∨ y ∈ l := by
        intro y hy
        rcases List.mem_append.1 hy with h | h
        · exact .inr (List.mem_of_mem_take h)
        · rcases List.mem_cons.1 h with h | h
          · exact .inl h
          · exact .inr (List.mem_of_mem_drop h)
      refine ⟨_, playB_ok x _ (by omega) h1 h2, hc, fun y hy => ?_, fun y hy => ?_, fun y hy => ?_⟩ <;> rcases hmem y hy with h | h
      · rw [h]; exact hp
      · exact hI.pkg y h
      · rw [h]; exact ho
      · exact hI.own y h
      · rw [h]; show (0 : Int) ≤ k + 1; omega
      · have := hI.chg y h; omega
    · rw [h3] at h1 h2
      exact ⟨l, playB_err x h0 h1 h2, hself⟩
  have REN : ∃ l', playB (fun v => ACalls Try.prog 31 [qAV a b c (rowH l), .ag [.s x.p, .s x.t], .i .i64 x.e, .i .i64 x.a, .i .i64 x.b] [] v []) (fun v => ACalls Try.prog 57 [qAV a b c (rowH l), .ag [.s x.p, .s x.t], .i .i64 x.e, .i .i64 x.a, .i .i64 x.b] [] v [])
      (qAV a b c (rowH l)) x (.tup [qAV a b c (rowH l'), qAV a b c (rowH l'), .b true]) ∧ Inv a b c (k + 1) l' := by
    have h1 := renew_calls a b c l ⟨x.p, x.t, x.e, x.a⟩ x.b (by omega)
    have h2 := renew2_calls a b c l ⟨x.p, x.t, x.e, x.a⟩ x.b
    rcases ch_out a b c l ⟨x.p, x.t, x.e, x.a⟩ (fun h => renE c l h x.b x.a) (fun h => renH h x.b) true with ⟨i, hi, hh, h0, h3⟩ | ⟨n, h0, h3⟩
    · rw [show renewR a b c l ⟨x.p, x.t, x.e, x.a⟩ x.b = _ from h3] at h1 h2
      simp only [heldB, Bool.and_eq_true, decide_eq_true_eq] at hh
      have hc := check_renew hi ⟨hh.1.2, hh.2⟩ h0 hI.chk
      have hl2 := ck_len hc
      exact ⟨_, playB_ok x _ (by show (l.set i (renH l[i] x.b)).length < _; omega) h1 h2, hI.set hi hc rfl rfl (by have := hI.chg _ (List.getElem_mem hi); show l[i].c ≤ _; omega)⟩
    · rw [show renewR a b c l ⟨x.p, x.t, x.e, x.a⟩ x.b = _ from h3] at h1 h2
      exact ⟨l, playB_err x h0 h1 h2, hself⟩
  have REL : ∃ l', playB (fun v => ACalls Try.prog 19 [qAV a b c (rowH l), .ag [.s x.p, .s x.t], .i .i64 x.e, .i .i64 x.a] [] v []) (fun v => ACalls Try.prog 58 [qAV a b c (rowH l), .ag [.s x.p, .s x.t], .i .i64 x.e, .i .i64 x.a] [] v [])
      (qAV a b c (rowH l)) x (.tup [qAV a b c (rowH l'), qAV a b c (rowH l'), .b true]) ∧ Inv a b c (k + 1) l' := by
    have h1 := release_calls a b c l ⟨x.p, x.t, x.e, x.a⟩
    have h2 := release2_calls a b c l ⟨x.p, x.t, x.e, x.a⟩
    rcases ch_out a b c l ⟨x.p, x.t, x.e, x.a⟩ (fun _ => 0) (fun h => h) false with ⟨i, hi, hh, h0, h3⟩ | ⟨n, h0, h3⟩
    · rw [show releaseR a b c l ⟨x.p, x.t, x.e, x.a⟩ = _ from h3] at h1 h2
      have hs : List.Sublist (l.take i ++ l.drop (i + 1)) l := by
        rw [← List.eraseIdx_eq_take_drop_succ]
        exact List.eraseIdx_sublist l i
      have hl2 := hs.length_le
      exact ⟨_, playB_ok x _ (by show (l.take i ++ l.drop (i + 1)).length < _; omega) h1 h2, hI.sub hs⟩
    · rw [show releaseR a b c l ⟨x.p, x.t, x.e, x.a⟩ = _ from h3] at h1 h2
      exact ⟨l, playB_err x h0 h1 h2, hself⟩
  have CHG : ∃ l', playB (fun v => ACalls Try.prog 23 [qAV a b c (rowH l), .ag [.s x.p, .s x.t], .i .i64 x.e, .i .i64 x.a] [] v []) (fun v => ACalls Try.prog 59 [qAV a b c (rowH l), .ag [.s x.p, .s x.t], .i .i64 x.e, .i .i64 x.a] [] v [])
      (qAV a b c (rowH l)) x (.tup [qAV a b c (rowH l'), qAV a b c (rowH l'), .b true]) ∧ Inv a b c (k + 1) l' := by
    have h1 := charge_calls a b c l ⟨x.p, x.t, x.e, x.a⟩
    have h2 := charge2_calls a b c l ⟨x.p, x.t, x.e, x.a⟩
    rcases ch_out a b c l ⟨x.p, x.t, x.e, x.a⟩ chgE chgH true with ⟨i, hi, hh, h0, h3⟩ | ⟨n, h0, h3⟩
    · rw [show chargeR a b c l ⟨x.p, x.t, x.e, x.a⟩ = _ from h3] at h1 h2
      obtain ⟨hc, hcc⟩ := check_charge hi h0 hI.chk
      have hl2 := ck_len hc
      have hp' : (chgH l[i]).p = l[i].p ∧ (chgH l[i]).by' = l[i].by' := by
        unfold chgH
        cases decide (l[i].c = 1073741824) <;> exact ⟨rfl, rfl⟩
      exact ⟨_, playB_ok x _ (by show (l.set i (chgH l[i])).length < _; omega) h1 h2, hI.set hi hc hp'.1 hp'.2 (by have := hI.chg _ (List.getElem_mem hi); omega)⟩
    · rw [show chargeR a b c l ⟨x.p, x.t, x.e, x.a⟩ = _ from h3] at h1 h2
      exact ⟨l, playB_err x h0 h1 h2, hself⟩
  by_cases k0 : x.kind = 0
  · obtain ⟨l', h, hi⟩ := ADD
    refine ⟨l', acalls_vc (vPlay_eq a b c l x _) (by kernel_rfl) (by kernel_rfl) noK_runs ?_, hi⟩
    unfold vPlay
    exact brI (fun _ => h) (fun h => absurd h (by simp [k0]))
  by_cases k1 : x.kind = 1
  · obtain ⟨l', h, hi⟩ := ADD
    refine ⟨l', acalls_vc (vPlay_eq a b c l x _) (by kernel_rfl) (by kernel_rfl) noK_runs ?_, hi⟩
    unfold vPlay
    exact brI (fun h => absurd h (by simp [k0])) (fun _ => brI (fun _ => h) (fun h => absurd h (by simp [k1])))
  by_cases k2 : x.kind = 2
  · obtain ⟨l', h, hi⟩ := ADD
    refine ⟨l', acalls_vc (vPlay_eq a b c l x _) (by kernel_rfl) (by kernel_rfl) noK_runs ?_, hi⟩
    unfold vPlay
    exact brI (fun h => absurd h (by simp [k0])) (fun _ => brI (fun h => absurd h (by simp [k1])) (fun _ => brI (fun _ => h) (fun h => absurd h (by simp [k2]))))
  by_cases k3 : x.kind = 3
  · obtain ⟨l', h, hi⟩ := REN
    refine ⟨l', acalls_vc (vPlay_eq a b c l x _) (by kernel_rfl) (by kernel_rfl) noK_runs ?_, hi⟩
    unfold vPlay
    exact brI (fun h => absurd h (by simp [k0])) (fun _ => brI (fun h => absurd h (by simp [k1])) (fun _ => brI (fun h => absurd h (by simp [k2])) (fun _ => brI (fun _ => h) (fun h => absurd h (by simp [k3])))))
  by_cases k4 : x.kind = 4
  · obtain ⟨l', h, hi⟩ := REN
    refine ⟨l', acalls_vc (vPlay_eq a b c l x _) (by kernel_rfl) (by kernel_rfl) noK_runs ?_, hi⟩
    unfold vPlay
    exact brI (fun h => absurd h (by simp [k0])) (fun _ => brI (fun h => absurd h (by simp [k1])) (fun _ => brI (fun h => absurd h (by simp [k2])) (fun _ => brI (fun h => absurd h (by simp [k3])) (fun _ => brI (fun _ => h) (fun h => absurd h (by simp [k4]))))))
  by_cases k5 : x.kind = 5
  · obtain ⟨l', h, hi⟩ := REL
    refine ⟨l', acalls_vc (vPlay_eq a b c l x _) (by kernel_rfl) (by kernel_rfl) noK_runs ?_, hi⟩
    unfold vPlay
    exact brI (fun h => absurd h (by simp [k0])) (fun _ => brI (fun h => absurd h (by simp [k1])) (fun _ => brI (fun h => absurd h (by simp [k2])) (fun _ => brI (fun h => absurd h (by simp [k3])) (fun _ => brI (fun h => absurd h (by simp [k4])) (fun _ => brI (fun _ => h) (fun h => absurd h (by simp [k5])))))))
  by_cases k6 : x.kind = 6
  · obtain ⟨l', h, hi⟩ := CHG
    refine ⟨l', acalls_vc (vPlay_eq a b c l x _) (by kernel_rfl) (by kernel_rfl) noK_runs ?_, hi⟩
    unfold vPlay
    exact brI (fun h => absurd h (by simp [k0])) (fun _ => brI (fun h => absurd h (by simp [k1])) (fun _ => brI (fun h => absurd h (by simp [k2])) (fun _ => brI (fun h => absurd h (by simp [k3])) (fun _ => brI (fun h => absurd h (by simp [k4])) (fun _ => brI (fun h => absurd h (by simp [k5])) (fun _ => brI (fun _ => h) (fun h => absurd h (by simp [k6]))))))))
  · refine ⟨_, acalls_vc (vPlay_eq a b c l x _) (by kernel_rfl) (by kernel_rfl) noK_runs ?_, hI.sub (List.filter_sublist (p := fun h => !decide (h.u ≤ IntKind.i64.wrap (x.a - 4))))⟩
    unfold vPlay
    exact brI (fun h => absurd h (by simp [k0])) (fun _ => brI (fun h => absurd h (by simp [k1])) (fun _ => brI (fun h => absurd h (by simp [k2])) (fun _ => brI (fun h => absurd h (by simp [k3])) (fun _ => brI (fun h => absurd h (by simp [k4])) (fun _ => brI (fun h => absurd h (by simp [k5])) (fun _ => brI (fun h => absurd h (by simp [k6])) (fun _ => playE_ok x hI.chk)))))))
end Go.AM.Q
set_option maxRecDepth 100000
set_option linter.unusedVariables false
namespace Go.AM.Q
open Go.Proofs
--BEGIN
def drawS : CSpec :=
  { frz := fun n => !Nat.beq n 0, ex := fun a σ K => match a, σ with
      | .ptr 0 0 :: _, [(0, .cells [x, .i .i64 _])] => ∃ n1 n2 n3 n4 s1 s2 s3 m, K (.ag [.i .i64 n1, .i .i64 n2, .i .i64 n3, .i .i64 n4, .s s1, .s s2, .s s3]) [(0, .cells [x, .i .i64 m])]
      | _, _ => False
    ok := fun a σ K h => by
      split at h
      · obtain ⟨n1, n2, n3, n4, s1, s2, s3, m, h⟩ := h
        exact ⟨_, _, h, fun K' hk => ⟨n1, n2, n3, n4, s1, s2, s3, m, hk⟩⟩
      · exact h.elim }
def beginS : CSpec :=
  { frz := fun n => !Nat.beq n 0, ex := fun a σ K => match a, σ with
      | .ptr 0 0 :: _, [(0, .cells [x, .i .i64 _])] => ∃ n1 n2 n3 xs n4 n5 n6 ys b m, K (.tup [.ag [.i .i64 n1, .i .i64 n2, .i .i64 n3, .sl xs], .ag [.i .i64 n4, .i .i64 n5, .i .i64 n6, .sl ys], .b b]) [(0, .cells [x, .i .i64 m])]
      | _, _ => False
    ok := fun a σ K h => by
      split at h
      · obtain ⟨n1, n2, n3, xs, n4, n5, n6, ys, b, m, h⟩ := h
        exact ⟨_, _, h, fun K' hk => ⟨n1, n2, n3, xs, n4, n5, n6, ys, b, m, hk⟩⟩
      · exact h.elim }
def TL : Nat → Option CSpec := fun n =>
  bif Nat.beq n 35 then some drawS else
  bif Nat.beq n 32 then some beginS else TT n
def cLi : List (Nat × (List (Nat × (Nat × Nat)) × List Nat)) := [(5, ([], [4,6,7,8,9,10,11]))]
def iLi (ls : List Int) (m : Int) (a b c : Int) (l : List Held) (n k : Int) : St := { t := [(4, .ptr 0 0), (6, .ptr 1 0), (7, .ptr 2 0), (8, .ptr 3 0), (9, .b true), (10, .i .i64 n), (11, .i .i64 k)], σ := [(0, .cells [.i .i64 0, .i .i64 0, .i .i64 0, .sl []]), (1, .cells [.sl (rowI ls), .i .i64 m]), (2, .cells [.i .i64 a, .i .i64 b, .i .i64 c, .sl (rowH l)]), (3, .cells [.i .i64 a, .i .i64 b, .i .i64 c, .sl (rowH l)])], n := 4, m := 44 }
def vLi (ls : List Int) (most : Int) (I : Nat → St → Prop) (v : AV) : Prop :=
 (∃ n1 : Int, (∃ n2 : Int, (∃ n3 : Int, (∃ xs : (List (List AV)), (∃ n4 : Int, (∃ n5 : Int, (∃ n6 : Int, (∃ ys : (List (List AV)), (∃ b : Bool, (∃ m : Int, ((ACalls Try.prog 32 [(AV.ptr 0 0)] [(0, (Blk.cells [(AV.sl (Q.rowI ls)), (AV.i IntKind.i64 (0 : Int))]))] (AV.tup [(AV.ag [(AV.i IntKind.i64 n1), (AV.i IntKind.i64 n2), (AV.i IntKind.i64 n3), (AV.sl xs)]), (AV.ag [(AV.i IntKind.i64 n4), (AV.i IntKind.i64 n5), (AV.i IntKind.i64 n6), (AV.sl ys)]), (AV.b b)]) [(0, (Blk.cells [(AV.sl (Q.rowI ls)), (AV.i IntKind.i64 m)]))]) ∧
 (∃ n : Int, (∃ m1 : Int, ((ACalls Try.prog 33 [(AV.ptr 0 0), (AV.i IntKind.i64 most)] [(0, (Blk.cells [(AV.sl (Q.rowI ls)), (AV.i IntKind.i64 m)]))] (AV.i IntKind.i64 n) [(0, (Blk.cells [(AV.sl (Q.rowI ls)), (AV.i IntKind.i64 m1)]))]) ∧
 ((AtL (hd Try.f15 5) (hd Try.f15 5)) ∧
 (I 5 { t := [(4, (AV.ptr 0 0)), (6, (AV.ptr 1 0)), (7, (AV.ptr 2 0)), (8, (AV.ptr 3 0)), (9, (AV.b b)), (10, (AV.i IntKind.i64 n)), (11, (AV.i IntKind.i64 (0 : Int)))], σ := [(0, (Blk.cells [(AV.i IntKind.i64 (0 : Int)), (AV.i IntKind.i64 (0 : Int)), (AV.i IntKind.i64 (0 : Int)), (AV.sl ([] : List (List AV)))])), (1, (Blk.cells [(AV.sl (Q.rowI ls)), (AV.i IntKind.i64 m1)])), (2, (Blk.cells [(AV.i IntKind.i64 n1), (AV.i IntKind.i64 n2), (AV.i IntKind.i64 n3), (AV.sl xs)])), (3, (Blk.cells [(AV.i IntKind.i64 n4), (AV.i IntKind.i64 n5), (AV.i IntKind.i64 n6), (AV.sl ys)]))], n := 4, m := 44 : St}))))))))))))))))
theorem vLi_eq (ls : List Int) (most : Int) (I : Nat → St → Prop) (v : AV) : vLi ls most I v = (evF Try.prog TL Try.f15 [] (cutA 0 Try.f15 cLi I) [.sl (rowI ls), .i .i64 most] [] [] v []) := by kernel_rfl

def vLiL (ls : List Int) (m : Int) (a b c : Int) (l : List Held) (n k : Int) (I : Nat → St → Prop) (v : AV) : Prop :=
 (brP (decide ((k : Int) < n)) (∃ n1 : Int, (∃ n2 : Int, (∃ n3 : Int, (∃ n4 : Int, (∃ s1 : ByteArray, (∃ s2 : ByteArray, (∃ s3 : ByteArray, (∃ m1 : Int, ((ACalls Try.prog 35 [(AV.ptr 0 0), (AV.i IntKind.i64 k)] [(0, (Blk.cells [(AV.sl (Q.rowI ls)), (AV.i IntKind.i64 m)]))] (AV.ag [(AV.i IntKind.i64 n1), (AV.i IntKind.i64 n2), (AV.i IntKind.i64 n3), (AV.i IntKind.i64 n4), (AV.s s1), (AV.s s2), (AV.s s3)]) [(0, (Blk.cells [(AV.sl (Q.rowI ls)), (AV.i IntKind.i64 m1)]))]) ∧
 (∃ n5 : Int, (∃ n6 : Int, (∃ n7 : Int, (∃ xs : (List (List AV)), (∃ n8 : Int, (∃ n9 : Int, (∃ n10 : Int, (∃ xs1 : (List (List AV)), (∃ x : Bool, ((ACalls Try.prog 34 [(AV.ag [(AV.i IntKind.i64 a), (AV.i IntKind.i64 b), (AV.i IntKind.i64 c), (AV.sl (Q.rowH l))]), (AV.ag [(AV.i IntKind.i64 a), (AV.i IntKind.i64 b), (AV.i IntKind.i64 c), (AV.sl (Q.rowH l))]), (AV.ag [(AV.i IntKind.i64 n1), (AV.i IntKind.i64 n2), (AV.i IntKind.i64 n3), (AV.i IntKind.i64 n4), (AV.s s1), (AV.s s2), (AV.s s3)])] ([] : List (Prod Nat Blk)) (AV.tup [(AV.ag ([(AV.i IntKind.i64 n5)] ++ ([(AV.i IntKind.i64 n6)] ++ ([(AV.i IntKind.i64 n7)] ++ ([(AV.sl xs)] ++ ([] : List AV) : (List AV)) : (List AV)) : (List AV)) : (List AV))), (AV.ag ([(AV.i IntKind.i64 n8)] ++ ([(AV.i IntKind.i64 n9)] ++ ([(AV.i IntKind.i64 n10)] ++ ([(AV.sl xs1)] ++ ([] : List AV) : (List AV)) : (List AV)) : (List AV)) : (List AV))), (AV.b x)]) ([] : List (Prod Nat Blk))) ∧
 ((Bool.true = (Bool.true : Bool)) ∧
 ((AtL (hd Try.f15 5) (hd Try.f15 5)) ∧
 (I 5 { t := [(4, (AV.ptr 0 0)), (6, (AV.ptr 1 0)), (7, (AV.ptr 2 0)), (8, (AV.ptr 3 0)), (9, (AV.b x)), (10, (AV.i IntKind.i64 n)), (11, (AV.i IntKind.i64 (IntKind.wrap IntKind.i64 (k + (1 : Int) : Int))))], σ := [(0, (Blk.cells [(AV.i IntKind.i64 (0 : Int)), (AV.i IntKind.i64 (0 : Int)), (AV.i IntKind.i64 (0 : Int)), (AV.sl ([] : List (List AV)))])), (1, (Blk.cells [(AV.sl (Q.rowI ls)), (AV.i IntKind.i64 m1)])), (2, (Blk.cells [(AV.i IntKind.i64 n5), (AV.i IntKind.i64 n6), (AV.i IntKind.i64 n7), (AV.sl xs)])), (3, (Blk.cells [(AV.i IntKind.i64 n8), (AV.i IntKind.i64 n9), (AV.i IntKind.i64 n10), (AV.sl xs1)]))], n := 4, m := 44 : St})))))))))))))))))))))) (((AV.tup [(AV.ag [(AV.i IntKind.i64 a), (AV.i IntKind.i64 b), (AV.i IntKind.i64 c), (AV.sl (Q.rowH l))]), (AV.b Bool.true)]) = (v : AV)) ∧
 (([] : List (Prod Nat Blk)) = (([] : List (Prod Nat Blk)) : Heap))))
theorem vLiL_eq (ls : List Int) (m : Int) (a b c : Int) (l : List Held) (n k : Int) (I : Nat → St → Prop) (v : AV) : vLiL ls m a b c l n k I v = (evL Try.prog TL Try.f15 [] (cutA 0 Try.f15 cLi I) 5 (iLi ls m a b c l n k) 0 [] v []) := by kernel_rfl

end Go.AM.Q
set_option maxRecDepth 100000
set_option linter.unusedVariables false
set_option linter.unusedSimpArgs false
namespace Go.AM.Q
open Go.Proofs
theorem li_loop (ls : List Int) (a b c : Int) (n : Nat) (hn : n ≤ 64) : ∀ (q k m : Nat) (l : List Held), n - k = q → k ≤ n → m ≤ 8 + 16 * k → Inv a b c k l →
    ∃ l', Runs Try.prog 15 0 (hd Try.f15 5) (iLi ls m a b c l n k) (RetR 0 [] (.tup [qAV a b c (rowH l'), .b true]) []) ∧ Inv a b c n l' := by
  intro q
  induction q with
  | zero =>
    intro k m l hq hk hm hI
    have hk' : k = n := by omega
    subst hk'
    refine ⟨l, runs_vc (vLiL_eq ls m a b c l k k (fun _ _ => False) _) (by kernel_rfl) (fun todo s h => Runs.cutA h (fun _ _ h => h.elim)) ?_, hI⟩
    unfold vLiL
    exact brI (fun h => by simp at h) (fun _ => ⟨rfl, rfl⟩)
  | succ q ih =>
    intro k m l hq hk hm hI
    obtain ⟨x, m', hd, hm1, hm2, hp, ho⟩ := draw_calls ls m k (by omega)
    obtain ⟨l1, hpl, hI1⟩ := play_calls a b c k l x hI (by omega) hp ho
    have hw : IntKind.i64.wrap ((k : Int) + 1) = ((k + 1 : Nat) : Int) := by rw [wrap_id (by omega) (by omega)]; simp
    obtain ⟨l', hr, hI'⟩ := ih (k + 1) m' l1 (by omega) (by omega) (by omega) (by simpa using hI1)
    refine ⟨l', runs_vc (vLiL_eq ls m a b c l n k (fun id s => id = 5 ∧ s = iLi ls m' a b c l1 n (k + 1 : Nat)) _) (by kernel_rfl) (fun todo s h => Runs.cutA h ?_) ?_, hI'⟩
    · rintro id s' ⟨rfl, rfl⟩
      exact hr
    · unfold vLiL
      rw [hw]
      exact brI (fun _ => ⟨_, _, _, _, _, _, _, _, hd, _, _, _, _, _, _, _, _, _, hpl, rfl, by trivial, rfl, rfl⟩) (fun h => by simp at h; omega)
theorem lived_calls (ls : List Int) (most : Int) (hmost : most ≤ 64) :
    ∃ a b c l, ACalls Try.prog 15 [.sl (rowI ls), .i .i64 most] [] (.tup [qAV a b c (rowH l), .b true]) [] ∧ Inv a b c 64 l := by
  obtain ⟨a, b, c, hb, hs⟩ := begin_calls ls 0 (by omega)
  have hn := next_calls ls (0 + 1 + 1 + 1) most (by omega) (by omega)
  have hr := foldI_rng (tapeV ls (0 + 1 + 1 + 1)) most
  have hnn : nextI ls (0 + 1 + 1 + 1) most = ((nextI ls (0 + 1 + 1 + 1) most).toNat : Int) := by unfold nextI; omega
  obtain ⟨l, hl, hI⟩ := li_loop ls a b c (nextI ls (0 + 1 + 1 + 1) most).toNat (by unfold nextI; omega) _ 0 (0 + 1 + 1 + 1 + 1) [] rfl (Nat.zero_le _) (by omega) (Inv.nil hs)
  refine ⟨a, b, c, l, acalls_vc (vLi_eq ls most (fun id s => id = 5 ∧ s = iLi ls (0 + 1 + 1 + 1 + 1 : Nat) a b c [] (nextI ls (0 + 1 + 1 + 1) most).toNat 0) _) (by kernel_rfl) (by kernel_rfl) (fun todo s h => Runs.cutA h (fun id s' e => ?_)) ?_, hI.chk, hI.pkg, hI.own, fun y hy => ?_⟩
  · obtain ⟨rfl, rfl⟩ := e
    exact hl
  · unfold vLi
    rw [← hnn]
    exact ⟨_, _, _, _, _, _, _, _, _, _, hb, _, _, hn, by trivial, rfl, rfl⟩
  · have := hI.chg y hy
    have hu : ((nextI ls (0 + 1 + 1 + 1) most).toNat : Int) ≤ 64 := by unfold nextI; omega
    omega
end Go.AM.Q
