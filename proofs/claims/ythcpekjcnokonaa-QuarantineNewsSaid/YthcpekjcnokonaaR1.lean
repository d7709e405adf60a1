/- The law 'QuarantineNews' returns true for every input, and leaves its arguments as they were. No condition. -/
import Derived.Test.YthcpekjcnokonaaRows
import Derived.Test.YthcpekjcnokonaaQR
import Derived.Test.YthcpekjcnokonaaAm28
import Derived.WalkKit
import Derived.ProofKit
import Derived.OpenShut
set_option maxRecDepth 100000
set_option linter.unusedVariables false
namespace Go.Proofs.Ythcpekjcnokonaa.quarantineNews
open Go.ChangeShapes Go.WideShapes Go.ChangeAt Go.RowKit Go.AM
theorem own : ownKnob Try.prog.godebug = none := by kernel_rfl
theorem laid : laidOutB Try.prog = true := by kernel_rfl
theorem maps : mapsRowed Try.prog = true := by kernel_rfl
theorem full : ((List.range Try.prog.types.size).all fun t => match Try.prog.underlying t with | some (.slice e) => decide (0 < Try.prog.cellsOf e) | _ => true) = true := by kernel_rfl
theorem lifted (os : Os) (started : os.Started) (H : Type) (enc : TypeId × Value → H) :
    ReturnsInHanded {} Try.checked os 3 .any (Rows.quarantineNewsSpec.pre6 enc Try.prog Try.f3 Rows.quarantineNewsRow.domain false) (Rows.quarantineNewsSpec.post enc Try.prog Try.f3 false true false false) := by
  refine returnsInHanded_of_change (C := Try.checked) own started (by kernel_rfl) Try.func3
    (ChangeSpec.witness6 (enc := enc) (C := Try.checked) false ⟨#[], #[.int .i64 0, .int .i64 0, .int .i64 0], []⟩ 8 (by kernel_rfl) (by kernel_rfl) (by kernel_rfl) (by kernel_rfl)) ?_
  intro W base args ds gs before hval hW hcnd _
  obtain ⟨p, q, hA, hV, he, hfz, hnd⟩ := id hW
  obtain ⟨hg, hq⟩ := trodVars_none hV
  rw [Try.params3] at hA hval
  obtain ⟨v0, vs0, d0, ds0, p0, q0, hargs, e1, e2, h0, r0⟩ := trodAll_cons hA
  obtain ⟨v1, vs1, d1, ds1, p1, q1, e3, e4, e5, h1, r1⟩ := trodAll_cons r0
  obtain ⟨v2, vs2, d2, ds2, p2, q2, e6, e7, e8, h2, r2⟩ := trodAll_cons r1
  obtain ⟨e9, e10, e11⟩ := trodAll_nil r2
  subst e9 e10 e6 e7 e3 e4
  obtain rfl : args = #[v0, v1, v2] := by cases args; simp_all
  obtain ⟨a0, x0, x1, x2, w0⟩ := open_int Try.underlying3 (hval 0 3 v0 rfl rfl) h0
  obtain ⟨a1, x3, x4, x5, w1⟩ := open_int Try.underlying3 (hval 1 3 v1 rfl rfl) h1
  obtain ⟨a2, x6, x7, x8, w2⟩ := open_int Try.underlying3 (hval 2 3 v2 rfl rfl) h2
  subst x0 x3 x6
  refine law_calls (avs := [.i .i64 a0, .i .i64 a1, .i .i64 a2]) (tb := 4) rfl laid maps full ?_ (by kernel_rfl) Try.underlying4 hW ?_ rfl ?_ (Q.news_calls a0 a1 a2)
  · rw [Try.params3]
    decide +kernel
  · rw [hg, List.append_nil, e1]
    rfl
  · intro j a x h1 h2
    match j, h1, h2 with
    | 0, h1, h2 => cases h1; cases h2; exact .i _ _
    | 1, h1, h2 => cases h1; cases h2; exact .i _ _
    | 2, h1, h2 => cases h1; cases h2; exact .i _ _
    | n + 3, h1, h2 => simp at h1
theorem over : Rows.quarantineNewsRow.holds Try.pinned (OpenSpec.ofChange Rows.quarantineNewsSpec) :=
  OpenClaim.holds_of_wide 3 Try.f3 rfl rfl rfl rfl rfl rfl rfl ⟨rfl, rfl, rfl, rfl, rfl⟩ rfl rfl rfl rfl rfl (by kernel_rfl) Try.func3 (by kernel_rfl)
    (of_decide_eq_true (by kernel_rfl)) (by unfold Func.isWrapper; first | (rw [if_pos (by decide +kernel)]; kernel_rfl) | (rw [if_neg (by decide +kernel)]; exact ⟨rfl, rfl⟩))
    (fun os started H enc _ => lifted os started H enc)
end Go.Proofs.Ythcpekjcnokonaa.quarantineNews
namespace Go.Proofs.Ythcpekjcnokonaa
theorem quarantineNews_holds : Rows.QuarantineNewsSaid := quarantineNews.over
end Go.Proofs.Ythcpekjcnokonaa
