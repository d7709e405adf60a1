/- Quarantine: contracts of the small functions. -/
import Derived.Test.YthcpekjcnokonaaQ1
set_option maxRecDepth 100000
set_option linter.unusedVariables false
set_option linter.unusedSimpArgs false
namespace Go.AM.Q
open Go.Proofs
theorem brP_iff {x : Bool} {A B : Prop} : brP x A B ↔ (x = true → A) ∧ (x = false → B) := by
  cases x <;> simp [brP]
theorem acalls_vc {VC : Prop} {P : Program} {T : Nat → Option CSpec} {f : FuncId} {fn : Func} {stop : List Nat} {KS : List Item → St → Prop} {args : List AV} {σ : Heap} {ex : List Nat} {v : AV} {σ' : Heap}
    (e : VC = evF P T fn stop KS args σ ex v σ') (hf : P.funcs[f]? = some fn) (hb : fn.body.isSome = true) (hKS : ∀ todo s, KS todo s → Runs P f σ.length todo s (RetR σ.length ex v σ')) (h : VC) : ACalls P f args σ v σ' :=
  acalls_ev hf hb (e.mp h) hKS
theorem noK_runs {P : Program} {f kk : Nat} {R : AV → St → Prop} (todo : List Item) (s : St) (h : noK todo s) : Runs P f kk todo s R := h.elim

def sizesB (a b c : Int) : Bool := decide (1 ≤ a) && decide (a ≤ b) && decide (b ≤ 32) && decide (1 ≤ c) && decide (c ≤ 1073741824)
theorem sizes_calls (a b c : Int) (l : AV) : ACalls Try.prog 25 [.ag [.i .i64 a, .i .i64 b, .i .i64 c, l]] [] (.b (sizesB a b c)) [] :=
  acalls_vc (vSizes_eq a b c l (.b (sizesB a b c))) (by kernel_rfl) (by kernel_rfl) noK_runs (by
    simp only [vSizes, brP_iff, sizesB]
    grind)
theorem numbers_calls (a b c : Int) : ACalls Try.prog 26 [.i .i64 a, .i .i64 b, .i .i64 c] [] (.b (sizesB a b c)) [] :=
  acalls_vc (vNumbers_eq a b c (.b (sizesB a b c))) (by kernel_rfl) (by kernel_rfl) noK_runs (by
    simp only [vNumbers, brP_iff, sizesB]
    grind)
/-- A quarantine. -/
def qAV (a b c : Int) (l : List (List AV)) : AV := .ag [.i .i64 a, .i .i64 b, .i .i64 c, .sl l]
def newR (a b c : Int) : AV := bif sizesB a b c then .tup [qAV a b c [], .i .i64 0] else .tup [qAV 0 0 0 [], .i .i64 3]
theorem new_calls (a b c : Int) : ACalls Try.prog 10 [.i .i64 a, .i .i64 b, .i .i64 c] [] (newR a b c) [] :=
  acalls_vc (vNew_eq a b c (newR a b c)) (by kernel_rfl) (by kernel_rfl) noK_runs (by
    refine ⟨sizesB a b c, sizes_calls a b c _, ?_⟩
    simp only [brP_iff, newR, qAV]
    cases sizesB a b c <;> simp)
theorem new2_calls (a b c : Int) : ACalls Try.prog 11 [.i .i64 a, .i .i64 b, .i .i64 c] [] (newR a b c) [] :=
  acalls_vc (vNew2_eq a b c (newR a b c)) (by kernel_rfl) (by kernel_rfl) noK_runs (by
    refine ⟨sizesB a b c, numbers_calls a b c, ?_⟩
    simp only [brP_iff, newR, qAV]
    cases sizesB a b c <;> simp)
def usableB (x y : ByteArray) : Bool := !strEq x ⟨#[]⟩ && decide ((x.size : Int) ≤ 24) && !strEq y ⟨#[]⟩ && decide ((y.size : Int) ≤ 24)
theorem usable_calls (x y : ByteArray) : ACalls Try.prog 79 [.ag [.s x, .s y]] [] (.b (usableB x y)) [] :=
  acalls_vc (vUsable_eq x y (.b (usableB x y))) (by kernel_rfl) (by kernel_rfl) noK_runs (by
    simp only [vUsable, brP_iff, usableB]
    grind)
end Go.AM.Q
