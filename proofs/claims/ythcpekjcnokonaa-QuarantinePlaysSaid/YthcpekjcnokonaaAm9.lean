/- Each operation's formula is sound (continued): literals, rows that are made or appended to; all operations together. -/
import Derived.Test.YthcpekjcnokonaaAm8
namespace Go.AM
open Go.RowKit

section
variable {P : Program} {o : Oper} {a : Act} {w : World} {β : Beta} {ok : Nat → Prop} {σ : Heap} {nm : Nat} {ρ : Env} {F : Nat → Option Blk}

/-! ### Literals -/
theorem laid_cells (off : Nat) : ∀ (vs : List Value) (k : Nat) (C : Array Value), off + k + vs.length ≤ C.size →
    ((vs.zipIdx k).foldl (fun cs (c, j) => cs.setIfInBounds (off + j) c) C).toList = splice C.toList (off + k) vs
  | [], k, C, h => by simp [splice]
  | v :: r, k, C, h => by
    simp only [List.zipIdx_cons, List.foldl_cons]
    rw [laid_cells off r (k + 1) (C.setIfInBounds (off + k) v) (by simp at h ⊢; omega)]
    apply List.ext_getElem?
    intro t
    simp only [List.length_cons] at h
    rw [get_splice _ _ _ (by simp; omega), get_splice _ _ _ (by simp; omega)]
    simp only [Array.toList_setIfInBounds, List.length_cons, List.getElem?_set]
    by_cases h1 : off + k = t
    · subst h1
      rw [if_neg (by omega), if_pos rfl, if_pos (by rw [Array.length_toList]; omega), if_pos (by omega)]
      simp
    · by_cases h2 : off + k ≤ t ∧ t < off + k + (r.length + 1)
      · rw [if_pos h2, if_pos (by omega), show t - (off + k) = (t - (off + (k + 1))) + 1 by omega]
        simp
      · rw [if_neg h2, if_neg (by omega), if_neg h1]

def RepO (w : World) (β : Beta) (ok : Nat → Prop) (cs : List AV) (C : Array Value) : Prop := RepL w β ok cs C ∧ One C

theorem RepO.splice {cs v : List AV} {C V : Array Value} {off : Nat} (h : RepO w β ok cs C) (k : RepO w β ok v V) (hl : off + v.length ≤ cs.length) :
    RepO w β ok (splice cs off v) (splice C.toList off V.toList).toArray := by
  have h1 := h.1.1
  have k1 := k.1.1
  have hC : off + V.toList.length ≤ C.toList.length := by simp; omega
  refine ⟨⟨by rw [length_splice' _ _ _ hl, List.size_toArray, length_splice' _ _ _ hC]; simpa using h1, fun j x y hx hy => ?_⟩, fun j y hy => ?_⟩
  · rw [get_splice _ _ _ hl] at hx
    rw [List.getElem?_toArray, get_splice _ _ _ hC, Array.length_toList, ← k1] at hy
    split at hx
    · rename_i hc
      rw [if_pos hc] at hy
      exact k.1.2 _ _ _ hx (by simpa using hy)
    · rename_i hc
      rw [if_neg hc] at hy
      exact h.1.2 _ _ _ hx (by simpa using hy)
  · rw [List.getElem?_toArray, get_splice _ _ _ hC] at hy
    split at hy
    · exact k.2 _ _ (by simpa using hy)
    · exact h.2 _ _ (by simpa using hy)

theorem fillAV_sound {place : Nat → Option (Nat × Nat)} (hr : ∀ x v, ρ x = some v → ARep w β ok v (a.eval x)) : ∀ (parts : List (Nat × Operand)) (cs cs' : List AV) (C : Array Value),
    fillAV place ρ parts cs = some cs' → RepO w β ok cs C → ∃ C', Instr.fill place C (parts.map fun p => (p.1, a.eval p.2)) = some C' ∧ RepO w β ok cs' C' ∧ cs'.length = cs.length
  | [], cs, cs', C, h, hC => by
    simp [fillAV] at h
    subst h
    exact ⟨C, rfl, hC, rfl⟩
  | (j, x) :: r, cs, cs', C, h, hC => by
    unfold fillAV at h
    split at h
    · rename_i off sz v hp hv
      cases hb : (Nat.beq v.length sz && Nat.ble (off + sz) cs.length) with
      | false => rw [hb] at h; simp at h
      | true =>
        rw [hb] at h
        simp only [cond_true] at h
        rw [Bool.and_eq_true] at hb
        have h1 := beq_nat hb.1
        have h2 := ble_nat hb.2
        obtain ⟨q, hq, hqv⟩ := Option.bind_eq_some_iff.1 hv
        obtain ⟨c1, c2⟩ := cellsOf_rep (hr x q hq) hqv
        have hV : RepO w β ok v (a.eval x).cells := ⟨⟨c1, fun j y z hy hz => (c2 j y z hy hz).2⟩, fun j z hz => by
          have hj := (Array.getElem?_eq_some_iff.1 hz).1
          have : v[j]? = some v[j] := List.getElem?_eq_getElem (by omega)
          exact (c2 j _ z this hz).1⟩
        have hn := RepO.splice hC hV (off := off) (by omega)
        obtain ⟨C', f1, f2, f3⟩ := fillAV_sound hr r _ cs' _ h hn
        refine ⟨C', ?_, f2, by rw [f3, length_splice' _ _ _ (by omega)]⟩
        have hCl := hC.1.1
        simp only [List.map_cons, Instr.fill, hp]
        rw [if_neg (by simp; omega)]
        have hlaid := laid_cells off (a.eval x).cells.toList 0 C (by simp; omega)
        simp only [Nat.add_zero] at hlaid
        rw [← f1]
        congr 1
        apply Array.ext'
        rw [← Array.foldl_toList]
        simpa using hlaid
    · simp at h

theorem zeroCells_rep {t : TypeId} {cs : List AV} (h : zeroCells P t = some cs) : ∃ i z, P.info? t = some i ∧ i.zero = some z ∧ cs.length = z.cells.size ∧
    ∀ (w : World) (ok : Nat → Prop) (j : Nat) (y : AV) (x : Value), cs[j]? = some y → z.cells[j]? = some x → PRep w ok y x ∧ x.oneCell' = true := by
  unfold zeroCells at h
  split at h
  · rename_i i hi
    split at h
    · rename_i z hz
      refine ⟨i, z, hi, hz, ?_, fun w ok j y x hy hx => ?_⟩
      · have := (ofConsts_rep (w := default) (ok := fun _ => True) h).1; simpa using this
      · exact (ofConsts_rep (w := w) (ok := ok) h).2 j y x hy (by simpa using hx)
    · simp at h
  · simp at h
theorem zeroCells_repO {t : TypeId} {cs : List AV} {i : TypeInfo} {z : Value} (h : zeroCells P t = some cs) (hi : P.info? t = some i) (hz : i.zero = some z) : RepO w β ok cs z.cells := by
  obtain ⟨i', z', h1, h2, h3, h4⟩ := zeroCells_rep h
  rw [hi] at h1
  injection h1 with h1
  subst h1
  rw [hz] at h2
  injection h2 with h2
  subst h2
  refine ⟨⟨h3, fun j y x hy hx => .p (h4 w ok j y x hy hx).1⟩, fun j x hx => ?_⟩
  have hj := (Array.getElem?_eq_some_iff.1 hx).1
  have : cs[j]? = some cs[j] := List.getElem?_eq_getElem (by omega)
  exact (h4 w ok j _ x this hx).2

theorem run_zeroValue {t : TypeId} {i : TypeInfo} {z : Value} (hi : P.info? t = some i) (hz : i.zero = some z) : (zeroValue t).run P w = .ok z w := by
  simp [zeroValue, typeInfo, hi, hz]

theorem run_mapM_list {α γ : Type} (g : α → Sem γ) (v : α → γ) : ∀ (l : List α), (∀ x ∈ l, (g x).run P w = .ok (v x) w) → (l.mapM g).run P w = .ok (l.map v) w
  | [], _ => by simp
  | x :: l, h => by
    have h1 := h x (by simp)
    have h2 := run_mapM_list g v l (fun y hy => h y (by simp [hy]))
    simp only [List.mapM_cons, Sem.run_bind, h1, h2, Result.andThen_ok, Sem.run_pure, List.map_cons]

theorem run_places {fs : Array Field} (hpl : ∀ f ∈ fs.toList, ∃ sz, sizeT P f.type = some sz) :
    ∃ places : Array (Nat × Nat), (fs.mapM fun f => do pure (f.offset, ← Go.sizeOf f.type) : Sem (Array (Nat × Nat))).run P w = .ok places w ∧ ∀ j, places[j]? = structPlace P fs j := by
  refine ⟨(fs.toList.map fun f => (f.offset, (sizeT P f.type).getD 0)).toArray, ?_, fun j => ?_⟩
  · have h := run_mapM_list (P := P) (w := w) (fun f : Field => (do pure (f.offset, ← Go.sizeOf f.type) : Sem (Nat × Nat))) (fun f => (f.offset, (sizeT P f.type).getD 0)) fs.toList (fun f hf => by
      obtain ⟨sz, hsz⟩ := hpl f hf
      simp only [Sem.run_bind, run_sizeOf w hsz, Result.andThen_ok, Sem.run_pure, hsz, Option.getD_some])
    rw [Array.mapM_eq_mapM_toList]
    simp only [Sem.run_map, h, Result.andThen_ok]
  · unfold structPlace
    rw [List.getElem?_toArray, List.getElem?_map, Array.getElem?_toList]
    cases hf : fs[j]? with
    | none => rfl
    | some f =>
      obtain ⟨sz, hsz⟩ := hpl f (List.mem_iff_getElem?.2 ⟨j, by simpa using hf⟩)
      simp [hsz]
end
end Go.AM
