/- Quarantine: contracts of entries, names and comparisons. -/
import Derived.Test.YthcpekjcnokonaaQ3
set_option maxRecDepth 100000
set_option linter.unusedVariables false
set_option linter.unusedSimpArgs false
namespace Go.AM.Q
open Go.Proofs
theorem strEq_self (x : ByteArray) : strEq x x = true := by simp [strEq]
theorem nanS_calls (x : ByteArray) : ACalls Try.prog 74 [.s x] [] (.b false) [] :=
  acalls_vc (vNaNs_eq x (.b false)) (by kernel_rfl) (by kernel_rfl) noK_runs (by simp [vNaNs, strEq_self])
theorem nanI_calls (x : Int) : ACalls Try.prog 75 [.i .i64 x] [] (.b false) [] :=
  acalls_vc (vNaNi_eq x (.b false)) (by kernel_rfl) (by kernel_rfl) noK_runs (by simp [vNaNi])
def cmpI (x y : Int) : Int := bif decide (x < y) then -1 else bif decide (y < x) then 1 else 0
theorem cmpI_calls (x y : Int) : ACalls Try.prog 53 [.i .i64 x, .i .i64 y] [] (.i .i64 (cmpI x y)) [] :=
  acalls_vc (vCmpI_eq x y (.i .i64 (cmpI x y))) (by kernel_rfl) (by kernel_rfl) noK_runs (by
    refine ⟨false, nanI_calls x, false, nanI_calls y, ?_⟩
    simp only [brP_iff, cmpI]
    grind)
/-- An entry. -/
structure Held where
  p : ByteArray
  t : ByteArray
  e : Int
  by' : ByteArray
  f : Int
  u : Int
  r : Int
  c : Int
def Held.cells (h : Held) : List AV := [.s h.p, .s h.t, .i .i64 h.e, .s h.by', .i .i64 h.f, .i .i64 h.u, .i .i64 h.r, .i .i64 h.c]
def histR (x y : ByteArray) (a b : Int) : AV :=
  bif !usableB x y then .tup [.ag [.s ⟨#[]⟩, .s ⟨#[]⟩, .i .i64 0, .i .i64 0, .i .i64 0, .i .i64 0, .i .i64 0, .sl []], .i .i64 1]
  else bif decide (a < 0) || decide (63 < a) || decide (b < 2) || decide (16 < b) then .tup [.ag [.s ⟨#[]⟩, .s ⟨#[]⟩, .i .i64 0, .i .i64 0, .i .i64 0, .i .i64 0, .i .i64 0, .sl []], .i .i64 3]
  else .tup [.ag [.s x, .s y, .i .i64 a, .i .i64 b, .i .i64 0, .i .i64 0, .i .i64 0, .sl []], .i .i64 0]
theorem hist_calls (x y : ByteArray) (a b : Int) : ACalls Try.prog 71 [.ag [.s x, .s y], .i .i64 a, .i .i64 b] [] (histR x y a b) [] :=
  acalls_vc (vHist_eq x y a b (histR x y a b)) (by kernel_rfl) (by kernel_rfl) noK_runs (by
    refine ⟨usableB x y, usable_calls x y, ?_⟩
    simp only [brP_iff, histR]
    cases usableB x y <;> simp <;> grind)
def whoB (h : Held) : Bool := usableB h.p h.t && decide (0 ≤ h.e) && decide (h.e ≤ 63) && !strEq h.by' ⟨#[]⟩ && decide ((h.by'.size : Int) ≤ 24)
theorem who_calls (h : Held) : ACalls Try.prog 44 [.ag h.cells] [] (.b (whoB h)) [] :=
  acalls_vc (vWho_eq h.p h.t h.by' h.e h.f h.u h.r h.c (.b (whoB h))) (by kernel_rfl) (by kernel_rfl) noK_runs (by
    have hh := hist_calls h.p h.t h.e 2
    unfold vWho
    by_cases hu : usableB h.p h.t = true
    · by_cases he : h.e < 0 ∨ 63 < h.e
      · refine ⟨⟨#[]⟩, ⟨#[]⟩, 0, 0, 0, 0, 0, [], 3, ?_, ?_⟩
        · have : histR h.p h.t h.e 2 = AV.tup [.ag [.s ⟨#[]⟩, .s ⟨#[]⟩, .i .i64 0, .i .i64 0, .i .i64 0, .i .i64 0, .i .i64 0, .sl []], .i .i64 3] := by unfold histR; rw [hu]; rw [show (decide (h.e < 0) || decide (63 < h.e) || decide ((2:Int) < 2) || decide ((16:Int) < 2)) = true by simp; omega]; rfl
          rw [this] at hh; exact hh
        · simp only [brP_iff, whoB]
          grind
      · refine ⟨h.p, h.t, h.e, 2, 0, 0, 0, [], 0, ?_, ?_⟩
        · have : histR h.p h.t h.e 2 = AV.tup [.ag [.s h.p, .s h.t, .i .i64 h.e, .i .i64 2, .i .i64 0, .i .i64 0, .i .i64 0, .sl []], .i .i64 0] := by unfold histR; rw [hu]; rw [show (decide (h.e < 0) || decide (63 < h.e) || decide ((2:Int) < 2) || decide ((16:Int) < 2)) = false by simp; omega]; rfl
          rw [this] at hh; exact hh
        · simp only [brP_iff, whoB]
          grind
    · simp only [Bool.not_eq_true] at hu
      refine ⟨⟨#[]⟩, ⟨#[]⟩, 0, 0, 0, 0, 0, [], 1, ?_, ?_⟩
      · have : histR h.p h.t h.e 2 = AV.tup [.ag [.s ⟨#[]⟩, .s ⟨#[]⟩, .i .i64 0, .i .i64 0, .i .i64 0, .i .i64 0, .i .i64 0, .sl []], .i .i64 1] := by unfold histR; rw [hu]; simp
        rw [this] at hh; exact hh
      · simp only [brP_iff, whoB]
        grind)
def meetsB (h k : Held) : Bool := strEq h.p k.p && strEq h.t k.t && decide (h.e = k.e) && decide (h.f < k.u) && decide (k.f < h.u)
theorem meets_calls (h k : Held) : ACalls Try.prog 30 [.ag h.cells, .ag k.cells] [] (.b (meetsB h k)) [] :=
  acalls_vc (vMeets_eq h.p h.t h.by' h.e h.f h.u h.r h.c k.p k.t k.by' k.e k.f k.u k.r k.c (.b (meetsB h k))) (by kernel_rfl) (by kernel_rfl) noK_runs (by
    simp only [vMeets, brP_iff, meetsB]
    grind)
end Go.AM.Q
