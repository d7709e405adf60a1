/- Quarantine: facts of the program's tables for the rows. -/
import Derived.Test.YthcpekjcnokonaaAm29
import Derived.Test.YthcpekjcnokonaaChecked
import Derived.WalkKit
import Derived.ProofKit
import Derived.OpenShut
import Derived.KernelRfl
set_option maxRecDepth 100000
namespace Go.Proofs.Ythcpekjcnokonaa.rowFacts
open Go.AM
theorem own : ownKnob Try.prog.godebug = none := by kernel_rfl
theorem laid : laidOutB Try.prog = true := by kernel_rfl
theorem maps : mapsRowed Try.prog = true := by kernel_rfl
theorem full : ((List.range Try.prog.types.size).all fun t => match Try.prog.underlying t with | some (.slice e) => decide (0 < Try.prog.cellsOf e) | _ => true) = true := by kernel_rfl
end Go.Proofs.Ythcpekjcnokonaa.rowFacts
