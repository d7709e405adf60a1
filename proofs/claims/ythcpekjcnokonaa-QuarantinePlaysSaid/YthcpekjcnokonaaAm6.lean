/- Each operation's formula is sound (continued): numbers and strings, new variables, loads, stores, indexes, cuts. -/
import Derived.Test.YthcpekjcnokonaaAm5
import Derived.Below
namespace Go.AM
open Go.RowKit
section
variable {P : Program} {o : Oper} {a : Act} {w : World} {β : Beta} {ok : Nat → Prop} {σ : Heap} {nm : Nat} {ρ : Env} {F : Nat → Option Blk}

theorem ODone.quiet {v : AV} {x : Value} (hm : Mem w β ok σ) (h : (execOp a.eval o).run P w = .ok (.value x) w) (hr : ARep w β ok v x) : ODone P o a w β ok σ nm v .none :=
  ⟨_, x, w, β, ok, h, .inl rfl, hr, .quiet hm rfl rfl rfl rfl⟩

/-! ### Numbers, strings, bools, structs: two operands -/
theorem binK_sound {op : BinOp} {t : TypeId} {p q : AV} {x y : Value} {K : AV → Prop} (h : binK P op t p q K) (hx : ARep w β ok p x) (hy : ARep w β ok q y) :
    ∃ v r, K v ∧ (binOp op t x y).run P w = .ok r w ∧ PRep w ok v r ∧ ∀ ox oy, (eqGuard op t ox oy x y).run P w = .ok () w := by
  unfold binK at h
  split at h
  · rename_i k n k' m
    have ex := rep_int hx
    have ey := rep_int hy
    subst ex
    subst ey
    have hg : ∀ ox oy, (eqGuard op t ox oy (.int k n) (.int k' m)).run P w = .ok () w := by
      intro ox oy
      cases op <;> simp [eqGuard]
    split at h
    · exact ⟨_, _, h.2, by simp [binOp, Op.shift, show ¬ m < 0 by omega], .i _ _, hg⟩
    · exact ⟨_, _, h.2, by simp [binOp, Op.shift, show ¬ m < 0 by omega], .i _ _, hg⟩
    · rename_i n1 n2
      obtain ⟨hk, hK⟩ := bif_elim h
      have hk' := of_decide_eq_true hk
      subst hk'
      cases op with
      | shl => exact (n1 rfl).elim
      | shr => exact (n2 rfl).elim
      | quo => exact ⟨_, _, hK.2, by simp [binOp, Op.intDiv, hK.1], .i _ _, hg⟩
      | rem => exact ⟨_, _, hK.2, by simp [binOp, Op.intDiv, hK.1], .i _ _, hg⟩
      | andNot => exact hK.elim
      | eql => exact ⟨_, .bool (n == m), hK, by simp [binOp, Op.intCmp], by rw [show (n == m) = decide (n = m) from rfl]; exact .b _, hg⟩
      | neq => exact ⟨_, .bool (n != m), hK, by simp [binOp, Op.intCmp], by rw [show (n != m) = !decide (n = m) from rfl]; exact .b _, hg⟩
      | add => exact ⟨_, _, hK, by simp [binOp, Op.intArith], .i _ _, hg⟩
      | sub => exact ⟨_, _, hK, by simp [binOp, Op.intArith], .i _ _, hg⟩
      | mul => exact ⟨_, _, hK, by simp [binOp, Op.intArith], .i _ _, hg⟩
      | and => exact ⟨_, _, hK, by simp only [binOp, Op.intBits]; simp, .i _ _, hg⟩
      | or => exact ⟨_, _, hK, by simp only [binOp, Op.intBits]; simp, .i _ _, hg⟩
      | xor => exact ⟨_, _, hK, by simp only [binOp, Op.intBits]; simp, .i _ _, hg⟩
      | lss => exact ⟨_, .bool (decide (n < m)), hK, by simp [binOp, Op.intCmp], .b _, hg⟩
      | leq => exact ⟨_, .bool (decide (n ≤ m)), hK, by simp [binOp, Op.intCmp], .b _, hg⟩
      | gtr => exact ⟨_, .bool (decide (n > m)), hK, by simp [binOp, Op.intCmp], .b _, hg⟩
      | geq => exact ⟨_, .bool (decide (n ≥ m)), hK, by simp [binOp, Op.intCmp], .b _, hg⟩
  · rename_i s1 s2
    have ex := rep_str hx
    have ey := rep_str hy
    subst ex
    subst ey
    have hg : ∀ ox oy, (eqGuard op t ox oy (.string s1) (.string s2)).run P w = .ok () w := by
      intro ox oy
      cases op <;> simp [eqGuard]
    unfold strK at h
    split at h
    · have h63 : ¬ (((s1.size + s2.size : Nat) : Int) > IntKind.i64.max) := by
        have : IntKind.i64.max = 9223372036854775807 := by decide
        rw [this]; omega
      exact ⟨_, _, h.2, by simp only [binOp, Op.stringOp]; rw [if_neg h63]; rfl, .s _, hg⟩
    · exact ⟨_, _, h, by simp [binOp, Op.stringOp, strEq_eq], .b _, hg⟩
    · exact ⟨_, _, h, by simp [binOp, Op.stringOp, strEq_eq], .b _, hg⟩
    · exact ⟨_, _, h, by simp [binOp, Op.stringOp], .b _, hg⟩
    · exact ⟨_, _, h, by simp [binOp, Op.stringOp, strEq_eq], .b _, hg⟩
    · exact ⟨_, _, h, by simp [binOp, Op.stringOp, strEq_eq], .b _, hg⟩
    · exact ⟨_, _, h, by simp [binOp, Op.stringOp], .b _, hg⟩
    · exact h.elim
  · rename_i b1 b2
    have ex := rep_bool hx
    have ey := rep_bool hy
    subst ex
    subst ey
    have hg : ∀ ox oy, (eqGuard op t ox oy (.bool b1) (.bool b2)).run P w = .ok () w := by
      intro ox oy
      cases op <;> simp [eqGuard]
    split at h
    · rename_i hu
      split at h
      · exact ⟨_, _, h, by simp [binOp, Op.equal, Op.maxDepth, run_equalIn_bool' w 9999 t b1 b2 hu], .b _, hg⟩
      · exact ⟨_, _, h, by simp [binOp, Op.equal, Op.maxDepth, run_equalIn_bool' w 9999 t b1 b2 hu], .b _, hg⟩
      · exact h.elim
    · exact h.elim
  · rename_i xs ys
    cases hgt : P.eqGuardType P.depth t with
    | true => rw [hgt] at h; exact h.elim
    | false =>
      rw [hgt] at h
      simp only [cond_false] at h
      obtain ⟨X, rfl, hX, hX1⟩ := rep_ag hx
      obtain ⟨Y, rfl, hY, hY1⟩ := rep_ag hy
      have hg : ∀ ox oy, (eqGuard op t ox oy (.agg X) (.agg Y)).run P w = .ok () w := fun ox oy => run_eqGuard_agg w op t ox oy X Y hgt
      split at h
      · rename_i r hag hr
        obtain ⟨g1, _, _⟩ := eqAV_run (w := w) 50 10000 t xs ys r X Y (by omega) hr hX hY
        simp only [mkv, hag, if_true] at g1
        split at h
        · exact ⟨_, _, h, by rw [run_eql_struct, g1]; rfl, .b _, hg⟩
        · exact ⟨_, _, h, by rw [run_neq_struct, g1]; rfl, .b _, hg⟩
        · exact h.elim
      · exact h.elim
  · exact h.elim

/-! ### New variables -/
theorem new_cells {cs : List AV} {arr : Array Value} (T : TypeId) (hm : Mem w β ok σ) (hn : β[nm]? = some none) (hl : cs.length = arr.size)
    (hr : ∀ (j : Nat) (y : AV) (x : Value), cs[j]? = some y → arr[j]? = some x → x.oneCell' = true ∧ ARep w β ok y x) :
    let v : Value := .pointer (some ⟨w.heap.size, 0, none⟩)
    ARep (w.alloc (.cells arr T)) (β.set nm (some v)) ok (.ptr nm 0) v ∧ OpOK w β ok σ nm (w.alloc (.cells arr T)) (β.set nm (some v)) ok (.new (.cells cs)) := by
  intro v
  have hset := get_set v hn
  refine ⟨.ptr hset, OpOK.new hm hn (Fr.alloc w _) (fun g hg => by simp [v, bk] at hg; omega) (.cells hset (heap_alloc_new w _) hl.symm (fun t y x hy hx => ?_))⟩
  obtain ⟨h1, h2⟩ := hr t y x hy hx
  exact ⟨h1, h2.mono (fun g hg => Below.heap_alloc _ _ _ (hm.oklt g hg)) (fun _ h => h) (BExt.set v hn)⟩

theorem new_row {e sz : Nat} {xs : List (List AV)} {arr : Array Value} {n c : Nat} {cells : List Value} (T : TypeId) (hm : Mem w β ok σ) (hn : β[nm]? = some none)
    (ho : (w.alloc (.cells arr T)).ownsRow 0 e sz (.slice (some ⟨w.heap.size, 0, none⟩) n c) xs.length cells)
    (hr : ∀ (j : Nat) (x : List AV), xs[j]? = some x → x.length = sz ∧ ∀ (t : Nat) (y : AV), x[t]? = some y → ∃ c, cells[j * sz + t]? = some c ∧ c.oneCell' = true ∧ PRep w ok y c) :
    let v : Value := .slice (some ⟨w.heap.size, 0, none⟩) n c
    ARep (w.alloc (.cells arr T)) (β.set nm (some v)) ok (.own nm) v ∧ OpOK w β ok σ nm (w.alloc (.cells arr T)) (β.set nm (some v)) ok (.new (.row e sz xs)) := by
  intro v
  have hset := get_set v hn
  refine ⟨.own hset, OpOK.new hm hn (Fr.alloc w _) (fun g hg => by simp [v, bk] at hg; omega) (.row hset ho (fun j x hx => ⟨(hr j x hx).1, fun t y hy => ?_⟩))⟩
  obtain ⟨c', h1, h2, h3⟩ := (hr j x hx).2 t y hy
  exact ⟨c', h1, h2, h3.mono (fun g hg => Below.heap_alloc _ _ _ (hm.oklt g hg)) (fun _ h => h)⟩

/-! ### Loads -/
theorem cellsAt_load {t : TypeId} {sz : Nat} {ag : Bool} {cs : List AV} {v : AV} {ad : Addr} (h1 : sizeT P t = some sz) (h2 : aggT P t = some ag) (hle : sz ≤ cs.length)
    (hv : ofCells ag (cs.take sz) = some v) (hc : CellsAt w β ok ad cs) : ∃ x, (loadVar t ad).run P w = .ok x w ∧ ARep w β ok v x := by
  obtain ⟨g, hg, hr⟩ := hc.take sz
  have hl : (cs.take sz).length = sz := by simp; omega
  obtain ⟨a1, a2⟩ := ofCells_rep hv hl hr
  exact ⟨_, run_loadVar_g w ad g h1 h2 a1 (fun j hj => hg j (by omega)), a2⟩

theorem loadK_sound {t : TypeId} {p : AV} {x : Value} {K : AV → Prop} (h : loadK P t F p K) (hx : ARep w β ok p x) (hm : Mem w β ok σ) (hF : ∀ n c, F n = some c → look n σ = some c) :
    ∃ v r, K v ∧ (Instr.loadAt t x).run P w = .ok r w ∧ ARep w β ok v r := by
  unfold loadK at h
  split at h
  · rename_i sz ag h1 h2
    have fin : ∀ (ad : Addr) (cs : List AV) (v : AV), sz ≤ cs.length → ofCells ag (cs.take sz) = some v → CellsAt w β ok ad cs → x = .pointer (some ad) → K v → ∃ v r, K v ∧ (Instr.loadAt t x).run P w = .ok r w ∧ ARep w β ok v r := by
      intro ad cs v hle hv hc hx hK
      obtain ⟨r, g1, g2⟩ := cellsAt_load h1 h2 hle hv hc
      exact ⟨v, r, hK, by subst hx; simp [Instr.loadAt, Instr.sureAddr, g1], g2⟩
    split at h
    · rename_i cs
      obtain ⟨hb, h⟩ := bif_elim h
      obtain ⟨ad, hxe, _, hc, _⟩ := pp_cells hx
      split at h
      · rename_i v hv
        exact fin ad cs v (ble_nat hb) hv hc hxe h
      · exact h.elim
    · rename_i n off
      split at h
      · rename_i cs hFn
        obtain ⟨hb, h⟩ := bif_elim h
        have hb := ble_nat hb
        obtain ⟨ad, hxe, hc⟩ := cells_cellsAt (hm.blks n _ (hF n _ hFn)) hx
        split at h
        · rename_i v hv
          exact fin ad (cs.drop off) v (by simp; omega) hv hc hxe h
        · exact h.elim
      · exact h.elim
    · rename_i n sz' j off
      split at h
      · rename_i e0 sz0 xs hFn
        obtain ⟨hb, h1'⟩ := bif_elim h
        have hb' := beq_nat hb
        subst hb'
        obtain ⟨cs, ⟨el, he, hcs, hcl⟩, h2'⟩ := exCells_ex _ _ _ h1'
        split at h2'
        · rename_i v hv
          obtain ⟨ad, hxe, hc⟩ := row_cellsAt (hm.blks n _ (hF n _ hFn)) hx he
          rw [← hcs] at hv
          refine fin ad (el.drop off) v ?_ hv hc hxe h2'
          have : ((el.drop off).take sz).length = sz := by rw [hcs]; exact hcl
          simp at this
          simp
          omega
        · exact h2'.elim
      · exact h.elim
    · exact h.elim
  · exact h.elim

end
end Go.AM
