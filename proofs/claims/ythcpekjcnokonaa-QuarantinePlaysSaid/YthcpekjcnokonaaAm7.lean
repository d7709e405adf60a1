/- Each operation's formula is sound (continued): stores, indexes, cuts, lengths, rows that are made or appended to. -/
import Derived.Test.YthcpekjcnokonaaAm6
namespace Go.AM
open Go.RowKit

theorem get_splice {α : Type} (l : List α) (off : Nat) (cs : List α) (h : off + cs.length ≤ l.length) (t : Nat) :
    (splice l off cs)[t]? = if off ≤ t ∧ t < off + cs.length then cs[t - off]? else l[t]? := by
  unfold splice
  have h1 : (l.take off).length = off := by simp; omega
  by_cases h2 : t < off
  · rw [List.append_assoc, List.getElem?_append_left (by omega), List.getElem?_take, if_pos h2, if_neg (by omega)]
  · rw [List.append_assoc, List.getElem?_append_right (by omega), h1]
    by_cases h3 : t - off < cs.length
    · rw [List.getElem?_append_left h3, if_pos (by omega)]
    · rw [List.getElem?_append_right (by omega), List.getElem?_drop, if_neg (by omega)]
      congr 1
      omega
theorem length_splice' {α : Type} (l : List α) (off : Nat) (cs : List α) (h : off + cs.length ≤ l.length) : (splice l off cs).length = l.length := by
  simp [splice]; omega

section
variable {P : Program} {o : Oper} {a : Act} {w : World} {β : Beta} {ok : Nat → Prop} {σ : Heap} {nm : Nat} {ρ : Env} {F : Nat → Option Blk}

def RowRep (w : World) (ok : Nat → Prop) (sz : Nat) (xs : List (List AV)) (cells : List Value) : Prop :=
  ∀ (j : Nat) (x : List AV), xs[j]? = some x → x.length = sz ∧ ∀ (t : Nat) (y : AV), x[t]? = some y → ∃ c, cells[j * sz + t]? = some c ∧ c.oneCell' = true ∧ PRep w ok y c
theorem RowRep.mono {w' : World} {sz : Nat} {xs : List (List AV)} {cells : List Value} (hh : ∀ g, ok g → w'.heap[g]? = w.heap[g]?) (h : RowRep w ok sz xs cells) : RowRep w' ok sz xs cells := by
  intro j x hx
  refine ⟨(h j x hx).1, fun t y hy => ?_⟩
  obtain ⟨c, h1, h2, h3⟩ := (h j x hx).2 t y hy
  exact ⟨c, h1, h2, h3.mono hh (fun _ h => h)⟩
theorem mul_in {j n sz t : Nat} (hj : j < n) (ht : t < sz) : j * sz + t < n * sz := by
  have : (j + 1) * sz ≤ n * sz := Nat.mul_le_mul_right _ hj
  rw [Nat.add_mul] at this
  omega
theorem RowRep.append {sz : Nat} {xs ys : List (List AV)} {cs ds : List Value} (h : RowRep w ok sz xs cs) (hl : cs.length = xs.length * sz) (k : RowRep w ok sz ys ds) : RowRep w ok sz (xs ++ ys) (cs ++ ds) := by
  intro j x hx
  by_cases hj : j < xs.length
  · rw [List.getElem?_append_left hj] at hx
    refine ⟨(h j x hx).1, fun t y hy => ?_⟩
    obtain ⟨c, h1, h2, h3⟩ := (h j x hx).2 t y hy
    refine ⟨c, ?_, h2, h3⟩
    rw [List.getElem?_append_left (List.getElem?_eq_some_iff.1 h1).1]
    exact h1
  · rw [List.getElem?_append_right (by omega)] at hx
    refine ⟨(k _ x hx).1, fun t y hy => ?_⟩
    obtain ⟨c, h1, h2, h3⟩ := (k _ x hx).2 t y hy
    refine ⟨c, ?_, h2, h3⟩
    have hle : xs.length * sz ≤ j * sz := Nat.mul_le_mul_right _ (by omega)
    rw [List.getElem?_append_right (by omega), hl, ← h1]
    congr 1
    rw [Nat.sub_mul]
    omega

/-! ### Stores -/
theorem run_store_row {t : TypeId} {sz g off : Nat} {v : Value} {arr : Array Value} {T : TypeId} (h1 : sizeT P t = some sz) (hv : v.cells.size = sz) (hone : ∀ x ∈ v.cells.toList, x.oneCell' = true)
    (hh : w.heap[g]? = some (.cells arr T (0, 0))) (hl : off + sz ≤ arr.size) :
    (Instr.storeAt t (.pointer (some ⟨g, off, none⟩)) v).run P w = .ok () (w.setRow g (splice arr.toList off v.cells.toList).toArray) := by
  have hst := run_storeCells_at P g off T v.cells.toList 0 arr w hh (by simp; omega) hone
  simp only [Nat.add_zero] at hst
  simp only [Instr.storeAt, Instr.sureAddr, storeVar, Sem.run_bind, Sem.run_pure, Result.andThen_ok, run_sizeOf w h1, hv, ne_eq, not_true, if_false, hst]
  rfl

theorem storeK_sound {t : TypeId} {p v : AV} {x y : Value} {K : Upd → Prop} (h : storeK P t F p v K) (hx : ARep w β ok p x) (hy : ARep w β ok v y) (hm : Mem w β ok σ) (hF : ∀ n c, F n = some c → look n σ = some c) :
    ∃ u w', K u ∧ (Instr.storeAt t x y).run P w = .ok () w' ∧ OpOK w β ok σ nm w' β ok u := by
  unfold storeK at h
  split at h
  · rename_i sz cs h1 h2
    obtain ⟨hb, h'⟩ := bif_elim h
    have hsz := beq_nat hb
    obtain ⟨hcl, hcr⟩ := cellsOf_rep hy h2
    have hone : ∀ z ∈ y.cells.toList, z.oneCell' = true := by
      intro z hz
      obtain ⟨j, hj, e⟩ := List.mem_iff_getElem.1 hz
      have hj' : j < y.cells.size := by simpa using hj
      have e1 : y.cells[j]? = some z := by simp [← e, hj']
      have e2 : cs[j]? = some cs[j] := List.getElem?_eq_getElem (by omega)
      exact (hcr j _ z e2 e1).1
    split at h'
    · rename_i n off
      split at h'
      · rename_i old hFn
        obtain ⟨hb2, hK⟩ := bif_elim h'
        have hle := ble_nat hb2
        have hl := hF n _ hFn
        cases hm.blks n _ hl with
        | @cells _ g arr T hb0 hh hl0 hr =>
          cases hx with
          | p hp => cases hp
          | @ptr _ _ g' hp =>
            rw [hp] at hb0
            simp only [Option.some.injEq, Value.pointer.injEq, Addr.mk.injEq, and_true] at hb0
            subst hb0
            have hrun := run_store_row (P := P) (t := t) (off := off) h1 (by omega) hone hh (by omega)
            refine ⟨_, _, hK, hrun, OpOK.put hm hl ⟨rfl, rfl, rfl, by simp, fun k hk hne => setRow_other w g' k _ (fun e => hne (by subst e; rw [blockOf_some hp]; rfl))⟩ ?_⟩
            have hfr : Fr (live β σ) w (w.setRow g' (splice arr.toList off y.cells.toList).toArray) := ⟨rfl, rfl, rfl, by simp, fun k hk hne => setRow_other w g' k _ (fun e => hne ⟨n, _, hl, by subst e; rw [blockOf_some hp]; rfl⟩)⟩
            refine .cells hp (setRow_heap w g' arr _ T _ hh) (by rw [List.size_toArray, length_splice' _ _ _ (by rw [Array.length_toList, Array.length_toList]; omega), length_splice' _ _ _ (by omega), Array.length_toList, hl0]) (fun t' z q hz hq => ?_)
            rw [get_splice _ _ _ (by omega)] at hz
            rw [List.getElem?_toArray, get_splice _ _ _ (by simp; omega)] at hq
            rw [Array.length_toList, ← hcl] at hq
            split at hz
            · rename_i hc
              rw [if_pos hc] at hq
              obtain ⟨c1, c2⟩ := hcr (t' - off) z q hz (by simpa using hq)
              exact ⟨c1, c2.mono (hm.okfr hfr) (fun _ h => h) (.refl _)⟩
            · rename_i hc
              rw [if_neg hc] at hq
              obtain ⟨c1, c2⟩ := hr t' z q hz (by simpa using hq)
              exact ⟨c1, c2.mono (hm.okfr hfr) (fun _ h => h) (.refl _)⟩
      · exact h'.elim
    · rename_i n sz' j off
      split at h'
      · rename_i e sz0 xs hFn
        obtain ⟨hb2, el, hel, hle, hK⟩ := bif_elim h'
        rw [Bool.and_eq_true] at hb2
        have hsz0 := beq_nat hb2.1
        subst hsz0
        have hpure := List.all_eq_true.1 hb2.2
        have hl := hF n _ hFn
        cases hm.blks n _ hl with
        | @row _ _ _ v0 cells hb0 ho hr =>
          cases hx with
          | p hp => cases hp
          | @eptr _ _ _ _ g l c hp =>
            rw [hp] at hb0
            simp only [Option.some.injEq] at hb0
            subst hb0
            rcases ho.2 with ⟨e1, _⟩ | ⟨g', cap, cur, e1, hg0, hh, hnc, hcm, hcs, htake⟩
            · simp at e1
            · simp only [Value.slice.injEq, Option.some.injEq, Addr.mk.injEq, and_true] at e1
              obtain ⟨rfl, rfl, rfl⟩ := e1
              have hjl : j < xs.length := (List.getElem?_eq_some_iff.1 hel).1
              have hw := (hr j el hel).1
              have hin : j * sz' + off + sz ≤ xs.length * sz' := by
                have : (j + 1) * sz' ≤ xs.length * sz' := Nat.mul_le_mul_right _ hjl
                rw [Nat.add_mul] at this
                omega
              have hcap : xs.length * sz' ≤ c * sz' := Nat.mul_le_mul_right _ hnc
              have hrun := run_store_row (P := P) (t := t) (off := j * sz' + off) h1 (by omega) hone hh (by omega)
              have hfr : Fr (live β σ) w (w.setRow g (splice cur.toList (j * sz' + off) y.cells.toList).toArray) := ⟨rfl, rfl, rfl, by simp, fun k hk hne => setRow_other w g k _ (fun e => hne ⟨n, _, hl, by subst e; rw [blockOf_some hp]; rfl⟩)⟩
              refine ⟨_, _, hK, hrun, OpOK.put hm hl ⟨rfl, rfl, rfl, by simp, fun k hk hne => setRow_other w g k _ (fun e => hne (by subst e; rw [blockOf_some hp]; rfl))⟩ ?_⟩
              have hslen : (splice cur.toList (j * sz' + off) y.cells.toList).length = cur.size := by rw [length_splice' _ _ _ (by simp; omega)]; simp
              refine .row hp (cells := ((splice cur.toList (j * sz' + off) y.cells.toList).take (xs.length * sz'))) ⟨?_, .inr ⟨g, c, _, by simp, hg0, setRow_heap w g cur _ e _ hh, by simpa using hnc, hcm, by simp [hslen, hcs], by simp⟩⟩ ?_
              · rw [List.length_take, hslen, hcs, List.length_set]; omega
              · intro j' x' hx'
                rw [List.getElem?_set] at hx'
                have cellsEq : ∀ q, q < xs.length * sz' → cells[q]? = cur[q]? := by
                  intro q hq
                  rw [← htake, List.getElem?_take, if_pos hq]
                  simp
                by_cases hjj : j = j'
                · subst hjj
                  rw [if_pos rfl, if_pos hjl] at hx'
                  injection hx' with hx'
                  subst hx'
                  refine ⟨by rw [length_splice' _ _ _ (by omega)]; exact hw, fun t' z hz => ?_⟩
                  have htl : t' < sz' := by
                    have := (List.getElem?_eq_some_iff.1 hz).1
                    rw [length_splice' _ _ _ (by omega)] at this
                    omega
                  have hq := mul_in hjl htl
                  rw [get_splice _ _ _ (by omega)] at hz
                  rw [List.getElem?_take, if_pos hq, get_splice _ _ _ (by simp; omega), Array.length_toList, ← hcl]
                  split at hz
                  · rename_i hc
                    rw [if_pos (by omega)]
                    have hzl := (List.getElem?_eq_some_iff.1 hz).1
                    have hzq : y.cells[t' - off]? = some y.cells[t' - off] := by simp
                    obtain ⟨c1, c2⟩ := hcr (t' - off) z _ hz hzq
                    have hp' := pure_rep c2 (hpure z (List.mem_iff_getElem?.2 ⟨_, hz⟩))
                    refine ⟨y.cells[t' - off], ?_, c1, hp'.1.mono (hm.okfr hfr) (fun _ h => h)⟩
                    rw [show j * sz' + t' - (j * sz' + off) = t' - off by omega]
                    simp
                  · rename_i hc
                    rw [if_neg (by omega)]
                    obtain ⟨q, q1, q2, q3⟩ := (hr j el hel).2 t' z hz
                    rw [cellsEq _ hq] at q1
                    exact ⟨q, by simpa using q1, q2, q3.mono (hm.okfr hfr) (fun _ h => h)⟩
                · rw [if_neg hjj] at hx'
                  obtain ⟨hw', hr'⟩ := hr j' x' hx'
                  have hj'l := (List.getElem?_eq_some_iff.1 hx').1
                  refine ⟨hw', fun t' z hz => ?_⟩
                  have htl : t' < sz' := by have := (List.getElem?_eq_some_iff.1 hz).1; omega
                  have hq := mul_in hj'l htl
                  obtain ⟨q, q1, q2, q3⟩ := hr' t' z hz
                  rw [cellsEq _ hq] at q1
                  refine ⟨q, ?_, q2, q3.mono (hm.okfr hfr) (fun _ h => h)⟩
                  rw [List.getElem?_take, if_pos hq, get_splice _ _ _ (by simp; omega), Array.length_toList, ← hcl, if_neg ?_]
                  · simpa using q1
                  · intro hc
                    rcases Nat.lt_or_gt_of_ne hjj with h3 | h3
                    · have : (j + 1) * sz' ≤ j' * sz' := Nat.mul_le_mul_right _ h3
                      rw [Nat.add_mul] at this
                      omega
                    · have : (j' + 1) * sz' ≤ j * sz' := Nat.mul_le_mul_right _ h3
                      rw [Nat.add_mul] at this
                      omega
      · exact h'.elim
    · exact h'.elim
  · exact h.elim
end
end Go.AM
