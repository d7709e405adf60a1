/- Quarantine: the order of entries. -/
import Derived.Test.YthcpekjcnokonaaQ7
set_option maxRecDepth 100000
set_option linter.unusedVariables false
set_option linter.unusedSimpArgs false
namespace Go.AM.Q
open Go.Proofs
def cmpS (x y : ByteArray) : Int := bif Op.bytesLess x.toList y.toList then -1 else bif strEq x y then 0 else 1
theorem cmpS_calls (x y : ByteArray) : ACalls Try.prog 52 [.s x, .s y] [] (.i .i64 (cmpS x y)) [] :=
  acalls_vc (vCmpS_eq x y (.i .i64 (cmpS x y))) (by kernel_rfl) (by kernel_rfl) noK_runs (by
    refine ⟨false, nanS_calls x, false, nanS_calls y, ?_⟩
    simp only [brP_iff, cmpS]
    cases Op.bytesLess x.toList y.toList <;> cases strEq x y <;> simp)
def compareI (h k : Held) : Int := orS [cmpS h.p k.p, cmpS h.t k.t, cmpI h.e k.e, cmpI h.f k.f]
theorem compare_calls (h k : Held) : ACalls Try.prog 29 [.ag h.cells, .ag k.cells] [] (.i .i64 (compareI h k)) [] :=
  acalls_vc (vCompare_eq h.p h.t h.by' h.e h.f h.u h.r h.c k.p k.t k.by' k.e k.f k.u k.r k.c (.i .i64 (compareI h k))) (by kernel_rfl) (by kernel_rfl) noK_runs (by
    refine ⟨_, cmpS_calls h.p k.p, _, cmpS_calls h.t k.t, _, cmpI_calls h.e k.e, _, cmpI_calls h.f k.f, _, or_calls [_, _, _, _] (by simp), by trivial, rfl, rfl⟩)
end Go.AM.Q
