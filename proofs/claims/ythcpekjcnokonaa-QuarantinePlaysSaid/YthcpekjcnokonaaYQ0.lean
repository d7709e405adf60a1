/- Quarantine: the law 'QuarantinePlays' as a contract. -/
import Derived.Test.YthcpekjcnokonaaZ5
set_option maxRecDepth 100000
set_option linter.unusedVariables false
namespace Go.AM.Q
open Go.Proofs
theorem plays_calls (ls : List Int) : ACalls Try.prog 4 [.sl (rowI ls)] [] (.b true) [] := by
  obtain ⟨a, b, c, l, h, _⟩ := lived_calls ls 40 (by omega)
  refine acalls_vc (vPlays_eq ls _) (by kernel_rfl) (by kernel_rfl) noK_runs ?_
  unfold vPlays
  exact ⟨_, _, _, _, _, h, brI (fun _ => ⟨_, known_calls, rfl, rfl⟩) (fun h => by cases h)⟩
end Go.AM.Q
