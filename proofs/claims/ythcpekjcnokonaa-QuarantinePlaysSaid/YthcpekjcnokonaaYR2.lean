/- The law 'QuarantinePlays' returns true for every input, and leaves its arguments as they were. No condition. -/
import Derived.Test.YthcpekjcnokonaaRows
import Derived.Test.YthcpekjcnokonaaYRA
import Derived.Test.YthcpekjcnokonaaYQ0
set_option maxRecDepth 100000
set_option linter.unusedVariables false
namespace Go.Proofs.Ythcpekjcnokonaa.quarantinePlays
open Go.ChangeShapes Go.WideShapes Go.ChangeAt Go.RowKit Go.AM
theorem lifted (os : Os) (started : os.Started) (H : Type) (enc : TypeId × Value → H) :
    ReturnsInHanded {} Try.checked os 4 .any (Rows.quarantinePlaysSpec.pre6 enc Try.prog Try.f4 Rows.quarantinePlaysRow.domain false) (Rows.quarantinePlaysSpec.post enc Try.prog Try.f4 false true false false) := by
  refine returnsInHanded_of_change (C := Try.checked) rowFacts.own started (by kernel_rfl) Try.func4
    (ChangeSpec.witness6 (enc := enc) (C := Try.checked) false ⟨#[], #[.slice none 0 0], []⟩ 8 (by kernel_rfl) (by kernel_rfl) (by kernel_rfl) (by kernel_rfl)) ?_
  intro W base args ds gs before hval hW hcnd _
  obtain ⟨p, q, hA, hV, he, hfz, hnd⟩ := id hW
  obtain ⟨hg, hq⟩ := trodVars_none hV
  rw [Try.params4] at hA hval
  obtain ⟨v0, vs0, d0, ds0, p0, q0, ea0, eb0, ec0, h0, r0⟩ := trodAll_cons hA
  obtain ⟨x1, x2, x3⟩ := trodAll_nil r0
  subst x1 x2 
  obtain rfl : args = #[v0] := by cases args; simp_all
  obtain ⟨a0, c0, w0⟩ := arg_ints Try.underlying32 Try.underlying3 (by kernel_rfl) (hval 0 32 v0 rfl rfl) h0
  refine law_calls (avs := [.sl (Q.rowI a0)]) (tb := 4) rfl rowFacts.laid rowFacts.maps rowFacts.full ?_ (by kernel_rfl) Try.underlying4 hW ?_ rfl ?_ (Q.plays_calls a0)
  · rw [Try.params4]
    decide +kernel
  · rw [hg, List.append_nil, eb0]
    rfl
  · intro j a x k1 k2
    match j, k1, k2 with
    | 0, k1, k2 => cases k1; cases k2; exact c0
    | n + 1, k1, k2 => simp at k1
theorem over : Rows.quarantinePlaysRow.holds Try.pinned (OpenSpec.ofChange Rows.quarantinePlaysSpec) :=
  OpenClaim.holds_of_wide 4 Try.f4 rfl rfl rfl rfl rfl rfl rfl ⟨rfl, rfl, rfl, rfl, rfl⟩ rfl rfl rfl rfl rfl (by kernel_rfl) Try.func4 (by kernel_rfl)
    (of_decide_eq_true (by kernel_rfl)) (by unfold Func.isWrapper; first | (rw [if_pos (by decide +kernel)]; kernel_rfl) | (rw [if_neg (by decide +kernel)]; exact ⟨rfl, rfl⟩))
    (fun os started H enc _ => lifted os started H enc)
end Go.Proofs.Ythcpekjcnokonaa.quarantinePlays
namespace Go.Proofs.Ythcpekjcnokonaa
theorem quarantinePlays_holds : Rows.QuarantinePlaysSaid := quarantinePlays.over
end Go.Proofs.Ythcpekjcnokonaa
