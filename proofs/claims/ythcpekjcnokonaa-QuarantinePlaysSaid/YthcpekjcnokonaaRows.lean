/-
  No cell of these rows narrows 'for every input' (looked for: loops, veiled, ifaces, maps, wideKeys, modest, calm, conditions, laid).
  DERIVED. THE GIVEN ROWS OF THIS SEAT. 7 by the template 'for every input the law returns true; each argument reads behind the call as it read before'; 0 by the template 'total and deterministic' (their statements: YthcpekjcnokonaaTotals.lean).
  GIVEN WITH THE SEED: the statements are not yours to turn. If you find one false, say at which input.
  Laid BY PROGRAM, IN A SANDBOX (cutbox-rows.mjs): the forced cells as the released guide's own fill.sh prints them over the translation e22f83b6a58de71e… (all of the seat's roots in one cut). By AI agents, Wed Nov 11 2026. No macro, syntax, notation, axiom, sorry.
-/
import Derived.Test.YthcpekjcnokonaaChecked
import GoSem.Claim
import GoSem.ClaimJoined
import GoSem.ClaimMapViews
import Derived.JoinedTies
import Derived.KernelRfl
namespace Go.Proofs.Ythcpekjcnokonaa
/- THE CELL 'sum', in the pinned program and in every row, IS THE sha256 OF THE DUMP (.gsa) THAT YthcpekjcnokonaaProg.lean LOADS. Nothing in Lean hashes anything: it is a label: what it is worth is what the hold of that sum in a sandbox is worth. -/
noncomputable def Try.pinned : Pinned := { name := "ythcpekjcnokonaa", sum := "e22f83b6a58de71e1454c6f790245f9e88d3066a20f0db54d88457f8fd37db31", checked := Try.checked }
namespace Rows
def none {H : Type} : Left H := { results := [], args := [] }

/-- 'testgatelaw24.QuarantineNews': WHATEVER THE INPUT: true; the input reads as it did. -/
def quarantineNewsSpec : ChangeSpec := { name := "quarantineNews", fn := fun _ => fun
  | [d1, d2, d3] => { results := [.lit (.bool true)], args := [d1, d2, d3] }
  | _ => none }
def quarantineNewsRow : OpenClaim := { program := "ythcpekjcnokonaa", sum := "e22f83b6a58de71e1454c6f790245f9e88d3066a20f0db54d88457f8fd37db31", func := "testgate/testgatelaw24.QuarantineNews", spec := "quarantineNews", inPlace := ["slices.overlaps[testgate/api.Held]"], unfollowed := true, recurses := true, apart := false }
def QuarantineNewsSaid : Prop := quarantineNewsRow.holds Try.pinned (OpenSpec.ofChange quarantineNewsSpec)

/-- ITS FALSE NEIGHBOUR: 'it returns false'. Refute it at one input. -/
def quarantineNewsWrong : ChangeSpec := { name := "quarantineNews", fn := fun _ => fun
  | [d1, d2, d3] => { results := [.lit (.bool false)], args := [d1, d2, d3] }
  | _ => none }
def QuarantineNewsWrongFalsely : Prop := quarantineNewsRow.holds Try.pinned (OpenSpec.ofChange quarantineNewsWrong)

/-- 'testgatelaw24.QuarantinePlays': WHATEVER THE INPUT: true; the input reads as it did. -/
def quarantinePlaysSpec : ChangeSpec := { name := "quarantinePlays", fn := fun _ => fun
  | [d] => { results := [.lit (.bool true)], args := [d] }
  | _ => none }
def quarantinePlaysRow : OpenClaim := { program := "ythcpekjcnokonaa", sum := "e22f83b6a58de71e1454c6f790245f9e88d3066a20f0db54d88457f8fd37db31", func := "testgate/testgatelaw24.QuarantinePlays", spec := "quarantinePlays", inPlace := ["slices.overlaps[testgate/api.Held]", "internal/bytealg.abigen_runtime_cmpstring"], unfollowed := true, recurses := true, apart := false }
def QuarantinePlaysSaid : Prop := quarantinePlaysRow.holds Try.pinned (OpenSpec.ofChange quarantinePlaysSpec)

/-- ITS FALSE NEIGHBOUR: 'it returns false'. Refute it at one input. -/
def quarantinePlaysWrong : ChangeSpec := { name := "quarantinePlays", fn := fun _ => fun
  | [d] => { results := [.lit (.bool false)], args := [d] }
  | _ => none }
def QuarantinePlaysWrongFalsely : Prop := quarantinePlaysRow.holds Try.pinned (OpenSpec.ofChange quarantinePlaysWrong)

/-- 'testgatelaw24.QuarantineChecks': WHATEVER THE INPUT: true; the input reads as it did. -/
def quarantineChecksSpec : ChangeSpec := { name := "quarantineChecks", fn := fun _ => fun
  | [d1, d2, d3, d4] => { results := [.lit (.bool true)], args := [d1, d2, d3, d4] }
  | _ => none }
def quarantineChecksRow : OpenClaim := { program := "ythcpekjcnokonaa", sum := "e22f83b6a58de71e1454c6f790245f9e88d3066a20f0db54d88457f8fd37db31", func := "testgate/testgatelaw24.QuarantineChecks", spec := "quarantineChecks", inPlace := ["slices.overlaps[testgate/api.Held]", "internal/bytealg.abigen_runtime_cmpstring"], unfollowed := true, recurses := true, apart := false }
def QuarantineChecksSaid : Prop := quarantineChecksRow.holds Try.pinned (OpenSpec.ofChange quarantineChecksSpec)

/-- ITS FALSE NEIGHBOUR: 'it returns false'. Refute it at one input. -/
def quarantineChecksWrong : ChangeSpec := { name := "quarantineChecks", fn := fun _ => fun
  | [d1, d2, d3, d4] => { results := [.lit (.bool false)], args := [d1, d2, d3, d4] }
  | _ => none }
def QuarantineChecksWrongFalsely : Prop := quarantineChecksRow.holds Try.pinned (OpenSpec.ofChange quarantineChecksWrong)

/-- 'testgatelaw24.QuarantineBudgets': WHATEVER THE INPUT: true; the input reads as it did. -/
def quarantineBudgetsSpec : ChangeSpec := { name := "quarantineBudgets", fn := fun _ => fun
  | [d1, d2] => { results := [.lit (.bool true)], args := [d1, d2] }
  | _ => none }
def quarantineBudgetsRow : OpenClaim := { program := "ythcpekjcnokonaa", sum := "e22f83b6a58de71e1454c6f790245f9e88d3066a20f0db54d88457f8fd37db31", func := "testgate/testgatelaw24.QuarantineBudgets", spec := "quarantineBudgets", inPlace := ["slices.overlaps[testgate/api.Held]", "internal/bytealg.abigen_runtime_cmpstring"], unfollowed := true, recurses := true, apart := false }
def QuarantineBudgetsSaid : Prop := quarantineBudgetsRow.holds Try.pinned (OpenSpec.ofChange quarantineBudgetsSpec)

/-- ITS FALSE NEIGHBOUR: 'it returns false'. Refute it at one input. -/
def quarantineBudgetsWrong : ChangeSpec := { name := "quarantineBudgets", fn := fun _ => fun
  | [d1, d2] => { results := [.lit (.bool false)], args := [d1, d2] }
  | _ => none }
def QuarantineBudgetsWrongFalsely : Prop := quarantineBudgetsRow.holds Try.pinned (OpenSpec.ofChange quarantineBudgetsWrong)

/-- 'testgatelaw24.QuarantineExpires': WHATEVER THE INPUT: true; the input reads as it did. -/
def quarantineExpiresSpec : ChangeSpec := { name := "quarantineExpires", fn := fun _ => fun
  | [d1, d2, d3] => { results := [.lit (.bool true)], args := [d1, d2, d3] }
  | _ => none }
def quarantineExpiresRow : OpenClaim := { program := "ythcpekjcnokonaa", sum := "e22f83b6a58de71e1454c6f790245f9e88d3066a20f0db54d88457f8fd37db31", func := "testgate/testgatelaw24.QuarantineExpires", spec := "quarantineExpires", inPlace := ["slices.overlaps[testgate/api.Held]", "internal/bytealg.abigen_runtime_cmpstring"], unfollowed := true, recurses := true, apart := false }
def QuarantineExpiresSaid : Prop := quarantineExpiresRow.holds Try.pinned (OpenSpec.ofChange quarantineExpiresSpec)

/-- ITS FALSE NEIGHBOUR: 'it returns false'. Refute it at one input. -/
def quarantineExpiresWrong : ChangeSpec := { name := "quarantineExpires", fn := fun _ => fun
  | [d1, d2, d3] => { results := [.lit (.bool false)], args := [d1, d2, d3] }
  | _ => none }
def QuarantineExpiresWrongFalsely : Prop := quarantineExpiresRow.holds Try.pinned (OpenSpec.ofChange quarantineExpiresWrong)

/-- 'testgatelaw24.QuarantineCharges': WHATEVER THE INPUT: true; the input reads as it did. -/
def quarantineChargesSpec : ChangeSpec := { name := "quarantineCharges", fn := fun _ => fun
  | [d1, d2, d3] => { results := [.lit (.bool true)], args := [d1, d2, d3] }
  | _ => none }
def quarantineChargesRow : OpenClaim := { program := "ythcpekjcnokonaa", sum := "e22f83b6a58de71e1454c6f790245f9e88d3066a20f0db54d88457f8fd37db31", func := "testgate/testgatelaw24.QuarantineCharges", spec := "quarantineCharges", inPlace := ["slices.overlaps[testgate/api.Held]", "internal/bytealg.abigen_runtime_cmpstring"], unfollowed := true, recurses := true, apart := false }
def QuarantineChargesSaid : Prop := quarantineChargesRow.holds Try.pinned (OpenSpec.ofChange quarantineChargesSpec)

/-- ITS FALSE NEIGHBOUR: 'it returns false'. Refute it at one input. -/
def quarantineChargesWrong : ChangeSpec := { name := "quarantineCharges", fn := fun _ => fun
  | [d1, d2, d3] => { results := [.lit (.bool false)], args := [d1, d2, d3] }
  | _ => none }
def QuarantineChargesWrongFalsely : Prop := quarantineChargesRow.holds Try.pinned (OpenSpec.ofChange quarantineChargesWrong)

/-- 'testgatelaw24.QuarantineBack': WHATEVER THE INPUT: true; the input reads as it did. -/
def quarantineBackSpec : ChangeSpec := { name := "quarantineBack", fn := fun _ => fun
  | [d1, d2, d3] => { results := [.lit (.bool true)], args := [d1, d2, d3] }
  | _ => none }
def quarantineBackRow : OpenClaim := { program := "ythcpekjcnokonaa", sum := "e22f83b6a58de71e1454c6f790245f9e88d3066a20f0db54d88457f8fd37db31", func := "testgate/testgatelaw24.QuarantineBack", spec := "quarantineBack", inPlace := ["slices.overlaps[testgate/api.Held]", "internal/bytealg.abigen_runtime_cmpstring"], unfollowed := true, recurses := true, apart := false }
def QuarantineBackSaid : Prop := quarantineBackRow.holds Try.pinned (OpenSpec.ofChange quarantineBackSpec)

/-- ITS FALSE NEIGHBOUR: 'it returns false'. Refute it at one input. -/
def quarantineBackWrong : ChangeSpec := { name := "quarantineBack", fn := fun _ => fun
  | [d1, d2, d3] => { results := [.lit (.bool false)], args := [d1, d2, d3] }
  | _ => none }
def QuarantineBackWrongFalsely : Prop := quarantineBackRow.holds Try.pinned (OpenSpec.ofChange quarantineBackWrong)

/- THE SECOND FORM. 'bulk': how many values and letters a reading holds, each counted each time it is reached (what is shared counts as often as it is met; a slice's spare places count too). A statement '..UptoSaid' is the law's where the arguments, and the package variables that the reading takes, are together of bulk at most 1048576: NARROWER than '..Said'. Prove '..Said' where nothing that the law and all that it calls make is longer than what came in: it says more and counts as full. Else prove '..UptoSaid'. A law counts once. -/
mutual
def uptoBulk {H : Type} : DataW H → Nat
  | .lit (.string bytes) => bytes.length + 1
  | .lit _ => 1
  | .nil => 1
  | .ptr d => uptoBulk d + 1
  | .slice elems spare => uptoBulkAll elems + uptoBulkAll spare + 1
  | .agg parts => uptoBulkAll parts + 1
  | .iface _ d => uptoBulk d + 1
  | .map entries => uptoBulkEntries entries + 1
  | .held _ => 1
def uptoBulkAll {H : Type} : List (DataW H) → Nat
  | [] => 0
  | d :: r => uptoBulk d + uptoBulkAll r
def uptoBulkEntries {H : Type} : List (Lit × DataW H) → Nat
  | [] => 0
  | x :: r => uptoBulkEntry x + uptoBulkEntries r
def uptoBulkEntry {H : Type} : Lit × DataW H → Nat
  | (.string bytes, d) => bytes.length + uptoBulk d + 1
  | (_, d) => uptoBulk d + 1
 end
def uptoSmall : (H : Type) → List (DataW H) → Bool := fun _ ds => decide (uptoBulkAll ds ≤ 1048576)
def OpenSpec.upto (s : _root_.Go.ChangeSpec) : _root_.Go.OpenSpec := { _root_.Go.OpenSpec.ofChange s with cond := some uptoSmall }

/-- 'testgatelaw24.QuarantineNews', WHERE WHAT IT READS IS OF BULK AT MOST 1048576: true; the input reads as it did. -/
def quarantineNewsUptoRow : OpenClaim := { program := "ythcpekjcnokonaa", sum := "e22f83b6a58de71e1454c6f790245f9e88d3066a20f0db54d88457f8fd37db31", func := "testgate/testgatelaw24.QuarantineNews", spec := "quarantineNews", inPlace := ["slices.overlaps[testgate/api.Held]"], unfollowed := true, recurses := true, apart := false, narrowed := true }
def QuarantineNewsUptoSaid : Prop := quarantineNewsUptoRow.holds Try.pinned (OpenSpec.upto quarantineNewsSpec)

/-- 'testgatelaw24.QuarantinePlays', WHERE WHAT IT READS IS OF BULK AT MOST 1048576: true; the input reads as it did. -/
def quarantinePlaysUptoRow : OpenClaim := { program := "ythcpekjcnokonaa", sum := "e22f83b6a58de71e1454c6f790245f9e88d3066a20f0db54d88457f8fd37db31", func := "testgate/testgatelaw24.QuarantinePlays", spec := "quarantinePlays", inPlace := ["slices.overlaps[testgate/api.Held]", "internal/bytealg.abigen_runtime_cmpstring"], unfollowed := true, recurses := true, apart := false, narrowed := true }
def QuarantinePlaysUptoSaid : Prop := quarantinePlaysUptoRow.holds Try.pinned (OpenSpec.upto quarantinePlaysSpec)

/-- 'testgatelaw24.QuarantineChecks', WHERE WHAT IT READS IS OF BULK AT MOST 1048576: true; the input reads as it did. -/
def quarantineChecksUptoRow : OpenClaim := { program := "ythcpekjcnokonaa", sum := "e22f83b6a58de71e1454c6f790245f9e88d3066a20f0db54d88457f8fd37db31", func := "testgate/testgatelaw24.QuarantineChecks", spec := "quarantineChecks", inPlace := ["slices.overlaps[testgate/api.Held]", "internal/bytealg.abigen_runtime_cmpstring"], unfollowed := true, recurses := true, apart := false, narrowed := true }
def QuarantineChecksUptoSaid : Prop := quarantineChecksUptoRow.holds Try.pinned (OpenSpec.upto quarantineChecksSpec)

/-- 'testgatelaw24.QuarantineBudgets', WHERE WHAT IT READS IS OF BULK AT MOST 1048576: true; the input reads as it did. -/
def quarantineBudgetsUptoRow : OpenClaim := { program := "ythcpekjcnokonaa", sum := "e22f83b6a58de71e1454c6f790245f9e88d3066a20f0db54d88457f8fd37db31", func := "testgate/testgatelaw24.QuarantineBudgets", spec := "quarantineBudgets", inPlace := ["slices.overlaps[testgate/api.Held]", "internal/bytealg.abigen_runtime_cmpstring"], unfollowed := true, recurses := true, apart := false, narrowed := true }
def QuarantineBudgetsUptoSaid : Prop := quarantineBudgetsUptoRow.holds Try.pinned (OpenSpec.upto quarantineBudgetsSpec)

/-- 'testgatelaw24.QuarantineExpires', WHERE WHAT IT READS IS OF BULK AT MOST 1048576: true; the input reads as it did. -/
def quarantineExpiresUptoRow : OpenClaim := { program := "ythcpekjcnokonaa", sum := "e22f83b6a58de71e1454c6f790245f9e88d3066a20f0db54d88457f8fd37db31", func := "testgate/testgatelaw24.QuarantineExpires", spec := "quarantineExpires", inPlace := ["slices.overlaps[testgate/api.Held]", "internal/bytealg.abigen_runtime_cmpstring"], unfollowed := true, recurses := true, apart := false, narrowed := true }
def QuarantineExpiresUptoSaid : Prop := quarantineExpiresUptoRow.holds Try.pinned (OpenSpec.upto quarantineExpiresSpec)

/-- 'testgatelaw24.QuarantineCharges', WHERE WHAT IT READS IS OF BULK AT MOST 1048576: true; the input reads as it did. -/
def quarantineChargesUptoRow : OpenClaim := { program := "ythcpekjcnokonaa", sum := "e22f83b6a58de71e1454c6f790245f9e88d3066a20f0db54d88457f8fd37db31", func := "testgate/testgatelaw24.QuarantineCharges", spec := "quarantineCharges", inPlace := ["slices.overlaps[testgate/api.Held]", "internal/bytealg.abigen_runtime_cmpstring"], unfollowed := true, recurses := true, apart := false, narrowed := true }
def QuarantineChargesUptoSaid : Prop := quarantineChargesUptoRow.holds Try.pinned (OpenSpec.upto quarantineChargesSpec)

/-- 'testgatelaw24.QuarantineBack', WHERE WHAT IT READS IS OF BULK AT MOST 1048576: true; the input reads as it did. -/
def quarantineBackUptoRow : OpenClaim := { program := "ythcpekjcnokonaa", sum := "e22f83b6a58de71e1454c6f790245f9e88d3066a20f0db54d88457f8fd37db31", func := "testgate/testgatelaw24.QuarantineBack", spec := "quarantineBack", inPlace := ["slices.overlaps[testgate/api.Held]", "internal/bytealg.abigen_runtime_cmpstring"], unfollowed := true, recurses := true, apart := false, narrowed := true }
def QuarantineBackUptoSaid : Prop := quarantineBackUptoRow.holds Try.pinned (OpenSpec.upto quarantineBackSpec)

end Rows
end Go.Proofs.Ythcpekjcnokonaa
