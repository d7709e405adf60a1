/- Quarantine: comparing lists and quarantines (the reference's own comparison). -/
import Derived.Test.YthcpekjcnokonaaQ6
set_option maxRecDepth 100000
set_option linter.unusedVariables false
set_option linter.unusedSimpArgs false
namespace Go.AM.Q
open Go.Proofs
def heldEq (h k : Held) : Bool := strEq h.p k.p && strEq h.t k.t && decide (h.e = k.e) && strEq h.by' k.by' && decide (h.f = k.f) && decide (h.u = k.u) && decide (h.r = k.r) && decide (h.c = k.c)
def listEq : List Held → List Held → Bool
  | [], [] => true
  | h :: r, k :: s => heldEq h k && listEq r s
  | _, _ => false
theorem listEq_len : ∀ {l m : List Held}, l.length ≠ m.length → listEq l m = false
  | [], [], h => absurd rfl h
  | [], _ :: _, h => rfl
  | _ :: _, [], h => rfl
  | a :: r, b :: s, h => by
    have : r.length ≠ s.length := by simpa using h
    simp [listEq, listEq_len this]
theorem sl_loop (l m : List Held) (hlm : l.length = m.length) (hx : l.length < 9223372036854775807) : ∀ (k j : Nat), l.length - j = k → j ≤ l.length →
    Runs Try.prog 27 0 (hd Try.f27 4) (iSL l m j) (RetR 0 [] (.b (listEq (l.drop j) (m.drop j))) []) := by
  intro k
  induction k with
  | zero =>
    intro j hk hj
    refine runs_vc (vSLL_eq l m j (fun _ => False) _) (by kernel_rfl) (fun todo s h => Runs.head h (fun _ h => h.elim)) ?_
    have hj' : j = l.length := by omega
    have e1 : l.drop j = [] := List.drop_eq_nil_of_le (by omega)
    have e2 : m.drop j = [] := List.drop_eq_nil_of_le (by omega)
    simp only [vSLL, brP_iff, e1, e2, listEq]
    refine ⟨fun h => ?_, fun _ => ⟨by trivial, by trivial⟩⟩
    simp [rowH, hj'] at h
  | succ k ih =>
    intro j hk hj
    have hlt : j < l.length := by omega
    have hlt2 : j < m.length := by omega
    have d1 : l.drop j = l[j] :: l.drop (j+1) := List.drop_eq_getElem_cons hlt
    have d2 : m.drop j = m[j] :: m.drop (j+1) := List.drop_eq_getElem_cons hlt2
    refine runs_vc (vSLL_eq l m j (fun s => s = iSL l m (j+1) ∧ heldEq l[j] m[j] = true) _) (by kernel_rfl) (fun todo s h => Runs.head h ?_) ?_
    · rintro s' ⟨rfl, h0⟩
      have := ih (j+1) (by omega) (by omega)
      rw [d1, d2]
      simpa only [listEq, h0, Bool.true_and] using this
    · simp only [vSLL, brP_iff]
      refine ⟨fun _ => ⟨by omega, by simpa [rowH] using hlt, l[j].p, l[j].t, l[j].e, l[j].by', l[j].f, l[j].u, l[j].r, l[j].c, by simp [rowH, hlt, Held.cells], by simp, by omega, by simpa [rowH] using hlt2,
        m[j].p, m[j].t, m[j].e, m[j].by', m[j].f, m[j].u, m[j].r, m[j].c, by simp [rowH, hlt2, Held.cells], by simp, by trivial, ?_, ?_⟩, fun h => ?_⟩
      · intro h0
        rw [d1, d2]
        have : heldEq l[j] m[j] = false := by
          cases hh : heldEq l[j] m[j] with
          | false => rfl
          | true => simp only [heldEq] at hh; grind
        simp [listEq, this]
      · intro h0
        refine ⟨rfl, ?_, ?_⟩
        · simp only [iSL]
          rw [wrap_id (by omega) (by omega)]
          rfl
        · simp only [heldEq]; grind
      · simp [rowH] at h; omega
theorem sl_calls (l m : List Held) (hx : l.length < 9223372036854775807) : ACalls Try.prog 27 [.sl (rowH l), .sl (rowH m)] [] (.b (listEq l m)) [] :=
  acalls_vc (vSL_eq l m (fun s => s = iSL l m 0 ∧ l.length = m.length) (.b (listEq l m))) (by kernel_rfl) (by kernel_rfl) (fun todo s h => Runs.head h (fun s' ⟨e, hlm⟩ => by subst e; exact sl_loop l m hlm hx _ 0 rfl (Nat.zero_le _))) (by
    simp only [vSL, brP_iff]
    constructor
    · intro h
      have : l.length ≠ m.length := by simp [rowH] at h; omega
      simp [listEq_len this]
    · intro h
      have : l.length = m.length := by simp [rowH] at h; omega
      exact ⟨rfl, rfl, this⟩)
def sameB (a b c a' b' c' : Int) (l m : List Held) : Bool := decide (a = a') && decide (b = b') && decide (c = c') && listEq l m
theorem same_calls (a b c a' b' c' : Int) (l m : List Held) (hx : l.length < 9223372036854775807) : ACalls Try.prog 12 [qAV a b c (rowH l), qAV a' b' c' (rowH m)] [] (.b (sameB a b c a' b' c' l m)) [] :=
  acalls_vc (vSameQ_eq a b c a' b' c' l m (.b (sameB a b c a' b' c' l m))) (by kernel_rfl) (by kernel_rfl) noK_runs (by
    have hc := sl_calls l m hx
    simp only [vSameQ, brP_iff, sameB]
    refine ⟨fun h1 => ⟨fun h2 => ⟨fun h3 => ⟨_, hc, ?_, by trivial⟩, ?_⟩, ?_⟩, ?_⟩ <;> grind)
end Go.AM.Q
