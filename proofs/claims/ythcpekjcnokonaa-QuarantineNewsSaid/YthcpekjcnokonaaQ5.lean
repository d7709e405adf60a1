/- Quarantine: cmp.Or and the order of entries. -/
import Derived.Test.YthcpekjcnokonaaQ4
set_option maxRecDepth 100000
set_option linter.unusedVariables false
set_option linter.unusedSimpArgs false
namespace Go.AM.Q
open Go.Proofs
theorem wrap_id {n : Int} (h1 : -9223372036854775808 ≤ n) (h2 : n < 9223372036854775808) : IntKind.i64.wrap n = n := by
  (simp [IntKind.wrap, IntKind.bits, IntKind.signed]; omega)
def orS : List Int → Int
  | [] => 0
  | x :: r => bif decide (x = 0) then orS r else x
def rowI (xs : List Int) : List (List AV) := xs.map fun n => [.i .i64 n]
theorem runs_vc {VC : Prop} {P : Program} {T : Nat → Option CSpec} {f : FuncId} {fn : Func} {stop : List Nat} {KS : List Item → St → Prop} {id : Nat} {s : St} {kk : Nat} {ex : List Nat} {v : AV} {σ' : Heap}
    (e : VC = evL P T fn stop KS id s kk ex v σ') (hf : P.funcs[f]? = some fn) (hKS : ∀ todo s, KS todo s → Runs P f kk todo s (RetR kk ex v σ')) (h : VC) : Runs P f kk (hd fn id) s (RetR kk ex v σ') :=
  runs_ev hf (e.mp h) hKS
theorem or_loop (xs : List Int) (hx : xs.length < 9223372036854775807) : ∀ (k j : Nat), xs.length - j = k → j ≤ xs.length → Runs Try.prog 51 0 (hd Try.f51 3) (iOr xs j) (RetR 0 [] (.i .i64 (orS (xs.drop j))) []) := by
  intro k
  induction k with
  | zero =>
    intro j hk hj
    refine runs_vc (vOrL_eq xs j (fun _ => False) _) (by kernel_rfl) (fun todo s h => Runs.head h (fun _ h => h.elim)) ?_
    have hj' : j = xs.length := by omega
    subst hj'
    simp [vOrL, brP_iff, orS]
  | succ k ih =>
    intro j hk hj
    have hlt : j < xs.length := by omega
    have hd : xs.drop j = xs[j] :: xs.drop (j+1) := List.drop_eq_getElem_cons hlt
    refine runs_vc (vOrL_eq xs j (fun s => s = iOr xs (j+1) ∧ xs[j] = 0) _) (by kernel_rfl) (fun todo s h => Runs.head h ?_) ?_
    · rintro s' ⟨rfl, h0⟩
      have := ih (j+1) (by omega) (by omega)
      rw [hd]
      simpa only [orS, h0, decide_true, cond_true] using this
    · simp only [vOrL, brP_iff]
      refine ⟨fun _ => ⟨by omega, by simpa using hlt, xs[j], by simp [hlt], by trivial, ?_, ?_⟩, fun h => ?_⟩
      · intro h0
        simp at h0
        rw [hd]
        simp [orS, h0]
      · intro h0
        simp at h0
        refine ⟨rfl, ?_, h0⟩
        simp only [iOr]
        rw [wrap_id (by omega) (by omega)]
        rfl
      · simp at h; omega
theorem or_calls (xs : List Int) (hx : xs.length < 9223372036854775807) : ACalls Try.prog 51 [.sl (xs.map fun n => [.i .i64 n])] [] (.i .i64 (orS xs)) [] :=
  acalls_vc (vOr_eq xs (fun s => s = iOr xs 0) (.i .i64 (orS xs))) (by kernel_rfl) (by kernel_rfl) (fun todo s h => Runs.head h (fun s' e => by subst e; exact or_loop xs hx _ 0 rfl (Nat.zero_le _))) ⟨rfl, rfl⟩
/-- Is the entry right in a quarantine of these numbers? -/
def entryB (C : Int) (h : Held) : Bool := whoB h && decide (0 ≤ h.f) && decide (h.f < h.u) && decide (h.u ≤ 1073741824) && decide (0 ≤ h.r) && decide (h.r ≤ 1) && decide (0 ≤ h.c) && decide (h.c ≤ 1073741824) && decide (IntKind.i64.wrap (h.u - h.f) ≤ IntKind.i64.wrap (C * IntKind.i64.wrap (1 + h.r)))
theorem entry_calls (A B C : Int) (l : List (List AV)) (h : Held) : ACalls Try.prog 28 [qAV A B C l, .ag h.cells] [] (.b (entryB C h)) [] :=
  acalls_vc (vEntry_eq A B C l h.p h.t h.by' h.e h.f h.u h.r h.c (.b (entryB C h))) (by kernel_rfl) (by kernel_rfl) noK_runs (by
    refine ⟨whoB h, who_calls h, ?_⟩
    simp only [brP_iff, entryB]
    grind)
end Go.AM.Q
