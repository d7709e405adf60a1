/- Quarantine: contracts of the reference's Load, Active, Release, Charge, Renew and Expire: what the program computes. -/
import Derived.Test.YthcpekjcnokonaaQM
set_option maxRecDepth 100000
set_option linter.unusedVariables false
set_option linter.unusedSimpArgs false
namespace Go.AM.Q
open Go.Proofs
theorem load2_calls (a b c : Int) (l : List Held) (o : ByteArray) : ACalls Try.prog 21 [qAV a b c (rowH l), .s o] [] (.i .i64 (loadI a b c l o)) [] :=
  acalls_vc (vLoad2_eq a b c l o _) (by kernel_rfl) (by kernel_rfl) noK_runs (by
    simp only [vLoad2, brP_iff]
    refine ⟨checkB a b c l, check2_calls a b c l, fun h => ⟨?_, by trivial⟩, fun h => ?_⟩
    · have : checkB a b c l = false := by simpa using h
      simp [loadI, this]
    · have hc : checkB a b c l = true := by simpa using h
      have hl := ck_len hc
      refine ⟨_, ow_calls a b c l o (by omega), ?_, by trivial⟩
      simp [loadI, hc])
theorem active2_calls (a b c : Int) (l : List Held) (m : Mom) : ACalls Try.prog 61 [qAV a b c (rowH l), .ag [.s m.p, .s m.t], .i .i64 m.e, .i .i64 m.now] [] (activeR a b c l m) [] :=
  acalls_vc (vActive2_eq a b c l m _) (by kernel_rfl) (by kernel_rfl) noK_runs (by
    simp only [vActive2, brP_iff]
    refine ⟨checkB a b c l, check2_calls a b c l, fun h => ⟨?_, by trivial⟩, fun h => ?_⟩
    · have : checkB a b c l = false := by simpa using h
      simp [activeR, this, Held.none, Held.cells]
    · have hc : checkB a b c l = true := by simpa using h
      have hl := ck_len hc
      refine ⟨_, fi_calls a b c l m (by omega), fun h2 => ?_, fun h2 => ⟨?_, by trivial⟩⟩
      · rcases idxP_find (heldB m) l 0 (Int.le_refl 0) with ⟨h3, h4⟩ | ⟨x, i, h3, h4, h5, _⟩
        · rw [h4] at h2; simp at h2
        · have hi := (List.getElem?_eq_some_iff.1 h5).1
          have hx := (List.getElem?_eq_some_iff.1 h5).2
          rw [h4]
          refine ⟨by omega, by rw [rowH_len]; omega, ?_⟩
          rw [show (0 + (i : Int)).toNat = i by omega]
          refine exH hi rfl ⟨?_, by trivial⟩
          simp [activeR, hc, h3, hx, Held.cells]
      · rcases idxP_find (heldB m) l 0 (Int.le_refl 0) with ⟨h3, h4⟩ | ⟨x, i, h3, h4, h5⟩
        · simp [activeR, hc, h3, Held.none, Held.cells]
        · rw [h4] at h2; simp at h2)
theorem release2_calls (a b c : Int) (l : List Held) (m : Mom) : ACalls Try.prog 58 [qAV a b c (rowH l), .ag [.s m.p, .s m.t], .i .i64 m.e, .i .i64 m.now] [] (releaseR a b c l m) [] :=
  acalls_vc (vRl_eq a b c l m _) (by kernel_rfl) (by kernel_rfl) noK_runs (by
    simp only [vRl, brP_iff, releaseR]
    refine ⟨checkB a b c l, check2_calls a b c l, fun h => ⟨?_, by trivial⟩, fun h => ?_⟩
    · have : checkB a b c l = false := by simpa using h
      simp only [chR, this, cond_false]
      rfl
    have hc : checkB a b c l = true := by simpa using h
    have hl := ck_len hc
    refine ⟨_, fi_calls a b c l m (by omega), fun h2 => ⟨?_, by trivial⟩, fun h2 => ?_⟩
    · rcases idxP_find (heldB m) l 0 (Int.le_refl 0) with ⟨h3, h4⟩ | ⟨x, i, h3, h4, h5⟩
      · simp only [chR, hc, h3, cond_true]
        rfl
      · rw [h4] at h2; simp at h2; omega
    rcases idxP_find (heldB m) l 0 (Int.le_refl 0) with ⟨h3, h4⟩ | ⟨x, i, h3, h4, h5, h6⟩
    · rw [h4] at h2; simp at h2
    obtain ⟨hi, hx⟩ := List.getElem?_eq_some_iff.1 h5
    have h4' : idxP (heldB m) 0 l = (i : Int) := by omega
    rw [h4']
    have hw : IntKind.i64.wrap ((i : Int) + 1) = ((i + 1 : Nat) : Int) := by rw [wrap_id (by omega) (by omega)]; simp
    simp only [Int.toNat_natCast, hw, rowH_len, List.drop_zero, List.length_take, List.length_drop]
    have hm : min i l.length ≤ 32 := by omega
    refine ⟨by omega, by omega, rowH_all l, by omega, by omega, fun y hy => rowH_all l y (List.mem_of_mem_take hy), by omega, by omega, rowH_all l, by omega, by omega, fun y hy => rowH_all l y (List.mem_of_mem_take (List.mem_of_mem_drop hy)), by trivial, ?_, by trivial⟩
    rw [List.take_of_length_le (Nat.le_of_eq (rowH_len l))]
    simp [chR, hc, h3, ← h6, okQ, qAV, rowH])
theorem charge2_calls (a b c : Int) (l : List Held) (m : Mom) : ACalls Try.prog 59 [qAV a b c (rowH l), .ag [.s m.p, .s m.t], .i .i64 m.e, .i .i64 m.now] [] (chargeR a b c l m) [] :=
  acalls_vc (vCh_eq a b c l m _) (by kernel_rfl) (by kernel_rfl) noK_runs (by
    simp only [vCh, brP_iff, chargeR]
    refine ⟨checkB a b c l, check2_calls a b c l, fun h => ⟨?_, by trivial⟩, fun h => ?_⟩
    · have : checkB a b c l = false := by simpa using h
      simp only [chR, this, cond_false]
      rfl
    have hc : checkB a b c l = true := by simpa using h
    have hl := ck_len hc
    refine ⟨_, fi_calls a b c l m (by omega), fun h2 => ⟨?_, by trivial⟩, fun h2 => ?_⟩
    · rcases idxP_find (heldB m) l 0 (Int.le_refl 0) with ⟨h3, h4⟩ | ⟨x, i, h3, h4, h5⟩
      · simp only [chR, hc, h3, cond_true]
        rfl
      · rw [h4] at h2; simp at h2; omega
    rcases idxP_find (heldB m) l 0 (Int.le_refl 0) with ⟨h3, h4⟩ | ⟨x, i, h3, h4, h5, h6⟩
    · rw [h4] at h2; simp at h2
    obtain ⟨hi, hx⟩ := List.getElem?_eq_some_iff.1 h5
    have h4' : idxP (heldB m) 0 l = (i : Int) := by omega
    rw [h4']
    refine ⟨by omega, by rw [rowH_len]; omega, exH (k := i) hi rfl ⟨fun h7 => ⟨?_, by trivial⟩, fun h7 => ⟨a, b, c, rowH (l.set i (chgH l[i])), ?_, ?_, by trivial⟩⟩⟩
    · have : chgE x = 2 := by rw [← hx]; simp only [chgE, h7, cond_true]
      simp [chR, hc, h3, this, errQ, qAV, rowH]
    · have : chgH l[i] = { l[i] with c := IntKind.i64.wrap (l[i].c + 1) } := by simp only [chgH, h7, cond_false]
      rw [this]
      exact with_calls a b c l i { l[i] with c := IntKind.i64.wrap (l[i].c + 1) } hi (by omega)
    · have : chgE x = 0 := by rw [← hx]; simp only [chgE, h7, cond_false]
      simp [chR, hc, h3, this, hx, ← h6, okQ, qAV])
/-! ### Expire -/
theorem ex2_loop (a b c now : Int) (l : List Held) (hl : l.length ≤ 32) : ∀ (k j : Nat), l.length - j = k → j ≤ l.length →
    Runs Try.prog 60 0 (hd Try.f60 5) (iE2 a b c now l ((l.take j).filter fun h => !decide (h.u ≤ now)) ((l.take j).filter fun h => decide (h.u ≤ now)) j)
      (RetR 0 [] (.tup [qAV a b c (rowH (l.filter fun h => !decide (h.u ≤ now))), .sl (rowH (l.filter fun h => decide (h.u ≤ now))), .i .i64 0]) []) := by
  intro k
  induction k with
  | zero =>
    intro j hk hj
    have hj' : j = l.length := by omega
    subst hj'
    rw [List.take_length]
    refine runs_vc (vE2L_eq a b c now l _ _ _ (fun _ _ => False) _) (by kernel_rfl) (fun todo s h => Runs.cutA h (fun _ _ h => h.elim)) ?_
    simp only [vE2L, brP_iff, rowH_len]
    exact ⟨fun h => by simp at h, fun _ => ⟨rfl, by trivial⟩⟩
  | succ k ih =>
    intro j hk hj
    have hlt : j < l.length := by omega
    have htk : l.take (j+1) = l.take j ++ [l[j]] := List.take_succ_eq_append_getElem hlt
    have f1 := List.length_filter_le (fun h : Held => !decide (h.u ≤ now)) (l.take j)
    have f2 := List.length_filter_le (fun h : Held => decide (h.u ≤ now)) (l.take j)
    have hcl : (l.take j).length ≤ 32 := by simp; omega
    refine runs_vc (vE2L_eq a b c now l _ _ j (fun id s => id = 5 ∧ s = iE2 a b c now l ((l.take (j+1)).filter fun h => !decide (h.u ≤ now)) ((l.take (j+1)).filter fun h => decide (h.u ≤ now)) (j+1)) _) (by kernel_rfl) (fun todo s h => Runs.cutA h ?_) ?_
    · rintro id s' ⟨rfl, rfl⟩
      exact ih (j+1) (by omega) (by omega)
    · have hw : IntKind.i64.wrap ((j : Int) + 1) = ((j + 1 : Nat) : Int) := by rw [wrap_id (by omega) (by omega)]; simp
      have h1 : ∀ y : List AV, List.Mem y [l[j].cells] → y.length = 8 := by
        intro y hy
        cases hy with
        | head => rfl
        | tail _ h => cases h
      simp only [vE2L, brP_iff, hw]
      refine ⟨fun _ => ⟨by omega, by rw [rowH_len]; omega, exH hlt rfl ⟨fun h => ⟨by omega, by rw [rowH_len]; omega, exH hlt rfl ⟨by rw [rowH_len]; omega, by rw [rowH_len]; omega, h1, by trivial, by trivial, ?_⟩⟩, fun h => ⟨by omega, by rw [rowH_len]; omega, exH hlt rfl ⟨by rw [rowH_len]; omega, by rw [rowH_len]; omega, h1, by trivial, by trivial, ?_⟩⟩⟩⟩, fun h => absurd h (by simp [rowH_len]; omega)⟩
      · rw [htk]
        simp only [List.filter_append, List.filter_cons, List.filter_nil, h, Bool.not_true, if_true, Bool.false_eq_true, if_false, List.append_nil]
        unfold iE2
        rw [← rowH_snoc]
        rfl
      · rw [htk]
        simp only [List.filter_append, List.filter_cons, List.filter_nil, h, Bool.not_false, if_true, Bool.false_eq_true, if_false, List.append_nil]
        unfold iE2
        rw [← rowH_snoc]
        rfl
theorem expire2_calls (a b c : Int) (l : List Held) (now : Int) : ACalls Try.prog 60 [qAV a b c (rowH l), .i .i64 now] [] (expR a b c l now) [] :=
  acalls_vc (vE2_eq a b c now l (fun id s => id = 5 ∧ s = iE2 a b c now l [] [] 0 ∧ checkB a b c l = true) _) (by kernel_rfl) (by kernel_rfl) (fun todo s h => Runs.cutA h (fun id s' e => by
    obtain ⟨rfl, rfl, e⟩ := e
    have := ex2_loop a b c now l (ck_len e) _ 0 rfl (Nat.zero_le _)
    rw [show expR a b c l now = .tup [qAV a b c (rowH (l.filter fun h => !decide (h.u ≤ now))), .sl (rowH (l.filter fun h => decide (h.u ≤ now))), .i .i64 0] by unfold expR; rw [e]; rfl]
    exact this)) (by
    simp only [vE2, brP_iff]
    refine ⟨checkB a b c l, check2_calls a b c l, fun h => ⟨?_, by trivial⟩, fun h => ⟨by trivial, by trivial, rfl, by simpa using h⟩⟩
    have : checkB a b c l = false := by simpa using h
    simp [expR, this, qAV])
end Go.AM.Q
