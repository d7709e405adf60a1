/- A law's arguments: an integer or a slice of integers, as an abstract value. -/
import Derived.Test.YthcpekjcnokonaaAm28
import Derived.ChangeSlices
set_option linter.unusedVariables false
namespace Go.AM
open Go.ChangeShapes Go.WideShapes Go.RowKit
theorem cell?_lt {w : World} {a : Addr} {v : Value} (h : w.cell? a = some v) : a.block < w.heap.size := by
  unfold World.cell? at h
  cases hb : w.heap[a.block]? with
  | none => rw [hb] at h; simp at h
  | some o => exact (Array.getElem?_eq_some_iff.1 hb).1
theorem arg_int {H : Type} {enc : TypeId × Value → H} {P : Program} {w : World} {base b0 : Nat} {spare : Nat → Bool} {held : Bool} {r : Reach} {t : TypeId} {k : IntKind} {v : Value} {d : DataW H} {ps : List MemPlace}
    (ht : P.underlying t = some (.int k)) (hval : Value.okWide P w r b0 t v) (hd : DataW.Trod enc P w base spare held t v d ps) :
    ∃ n, PRep w (· < w.heap.size) (.i k n) v ∧ (Lit.int k n).wf = true := by
  obtain ⟨n, rfl, _, _, hw⟩ := open_int ht hval hd
  exact ⟨n, .i _ _, hw⟩
theorem arg_ints {H : Type} {enc : TypeId × Value → H} {P : Program} {w : World} {base b0 : Nat} {spare : Nat → Bool} {held : Bool} {r : Reach} {t e : TypeId} {k : IntKind} {v : Value} {d : DataW H} {ps : List MemPlace}
    (ht : P.underlying t = some (.slice e)) (he : P.underlying e = some (.int k)) (hc : P.cellsOf e = 1) (hval : Value.okWide P w r b0 t v) (hd : DataW.Trod enc P w base spare held t v d ps) :
    ∃ zs : List Int, PRep w (· < w.heap.size) (.sl (zs.map fun n => [.i k n])) v ∧ zs.length ≤ maxLen := by
  obtain ⟨a, len, cap, rfl⟩ := okWide_slice ht hval
  obtain ⟨fuel, hf⟩ := hd
  rcases open_ints ht he hc hf with ⟨h1, _⟩ | ⟨a', len', cap', zs, h1, _, hl, hm, hz, _, hcell, _⟩
  · have h1' : Value.slice a len cap = .slice none 0 0 := by simpa [Value.cells] using h1
    rw [h1']
    refine ⟨[], .sl (xs := []) 1 (fun _ => .bool true) (Nat.le_refl _) (fun _ => rfl) ?_ ?_ ?_ ?_, Nat.zero_le _⟩
    · intro j x h; simp at h
    · intro h; simp at h
    · intro t h; simp at h
    · intro j x t y h; simp at h
  · have h1' : Value.slice a len cap = .slice (some a') len' cap' := by simpa [Value.cells] using h1
    rw [h1']
    have hlz : len' ≤ zs.length := by
      rw [hz]
      split <;> omega
    have hlen : (zs.take len').length = len' := by simp; omega
    have hg : ∀ t, t < len' → (zs.take len')[t]? = some (zs.getD t 0) := by
      intro t ht
      rw [List.getElem?_take_of_lt ht, List.getD_eq_getElem?_getD, List.getElem?_eq_getElem (by omega)]
      rfl
    refine ⟨zs.take len', ?_, by rw [hlen]; omega⟩
    have key : PRep w (· < w.heap.size) (.sl ((zs.take len').map fun n => [AV.i k n])) (.slice (some a') ((zs.take len').map fun n => [AV.i k n]).length cap') := by
      refine .sl 1 (fun t => .int k (zs.getD t 0)) (by rw [List.length_map, hlen]; exact hl) (fun h => by cases h) ?_ ?_ ?_ ?_
      · intro j x hx
        rw [List.getElem?_map] at hx
        cases hz' : (zs.take len')[j]? with
        | none => rw [hz'] at hx; simp at hx
        | some n => rw [hz'] at hx; simp at hx; subst hx; rfl
      · intro h0
        rw [List.length_map, hlen] at h0 ⊢
        refine ⟨a', rfl, ?_, fun t ht => hcell t (by omega)⟩
        have := cell?_lt (hcell 0 (by omega))
        rwa [block_add] at this
      · intro t ht
        rfl
      · intro j x t y hx hy
        rw [List.getElem?_map] at hx
        cases hz' : (zs.take len')[j]? with
        | none => rw [hz'] at hx; simp at hx
        | some n =>
          rw [hz'] at hx
          simp at hx
          subst hx
          have hj : j < len' := by
            have := (List.getElem?_eq_some_iff.1 hz').1
            omega
          rw [hg j hj] at hz'
          cases t with
          | zero =>
            simp at hy hz'
            subst hy
            rw [show j * 1 + 0 = j by omega, ← hz', ← List.getD_eq_getElem?_getD]
            exact .i _ _
          | succ t => simp at hy
    rw [List.length_map, hlen] at key
    exact key
end Go.AM
