/- Quarantine: contracts of the reference's functions; what they compute is what the program computes. -/
import Derived.Test.YthcpekjcnokonaaQJ
import Derived.Test.YthcpekjcnokonaaQK
set_option maxRecDepth 100000
set_option linter.unusedVariables false
set_option linter.unusedSimpArgs false
namespace Go.AM.Q
open Go.Proofs
theorem strEq_empty (x : ByteArray) : strEq x ⟨#[]⟩ = !decide (0 < (x.size : Int)) := by
  rw [Bool.eq_iff_iff, strEq_iff]
  simp only [Bool.not_eq_true', decide_eq_false_iff_not]
  constructor
  · rintro rfl
    show ¬ 0 < ((0 : Nat) : Int)
    omega
  · intro h
    apply data_inj
    have : x.data.size = 0 := by
      have : x.size = x.data.size := rfl
      omega
    simp [Array.eq_empty_of_size_eq_zero this]
theorem usa_calls (x y : ByteArray) : ACalls Try.prog 64 [.ag [.s x, .s y]] [] (.b (usableB x y)) [] :=
  acalls_vc (vUsa_eq x y _) (by kernel_rfl) (by kernel_rfl) noK_runs (by
    simp only [vUsa, brP_iff, usableB, strEq_empty]
    have h1 : 0 ≤ (x.size : Int) := by omega
    have h2 : 0 ≤ (y.size : Int) := by omega
    grind)
theorem pla_calls (n : Int) : ACalls Try.prog 65 [.i .i64 n] [] (.b (decide (0 ≤ n) && decide (n ≤ 63))) [] :=
  acalls_vc (vPla_eq n _) (by kernel_rfl) (by kernel_rfl) noK_runs (by
    simp only [vPla, brP_iff]
    grind)
def usbB (x y o : ByteArray) (n : Int) : Bool := usableB x y && decide (0 ≤ n) && decide (n ≤ 63) && !strEq o ⟨#[]⟩ && decide ((o.size : Int) ≤ 24)
theorem usb_calls (x y o : ByteArray) (n : Int) : ACalls Try.prog 36 [.ag [.s x, .s y], .i .i64 n, .s o] [] (.b (usbB x y o n)) [] :=
  acalls_vc (vUsb_eq x y o n _) (by kernel_rfl) (by kernel_rfl) noK_runs (by
    have hu := usa_calls x y
    have hp := pla_calls n
    have h1 : 0 ≤ (o.size : Int) := by omega
    simp only [vUsb, brP_iff, usbB, strEq_empty]
    refine ⟨_, hu, fun h => ⟨_, hp, ?_⟩, fun h => ?_⟩
    · grind
    · grind)
theorem sameT_calls (h k : Held) : ACalls Try.prog 66 [.ag h.cells, .ag k.cells] [] (.b (strEq h.p k.p && strEq h.t k.t && decide (h.e = k.e))) [] :=
  acalls_vc (vSame_eq h k _) (by kernel_rfl) (by kernel_rfl) noK_runs (by
    simp only [vSame, brP_iff]
    grind)
theorem meet_calls (h k : Held) : ACalls Try.prog 38 [.ag h.cells, .ag k.cells] [] (.b (meetsB h k)) [] :=
  acalls_vc (vMeet_eq h k _) (by kernel_rfl) (by kernel_rfl) noK_runs (by
    simp only [vMeet, brP_iff, meetsB]
    refine ⟨_, sameT_calls h k, ?_⟩
    grind)
theorem cmpN (x y : ByteArray) (F : Nat → Option Blk) : NCalls Try.prog 83 [.s x, .s y] F (.i .i64 (cbs x y)) := by
  intro w β ok σ vs hargs hm hF
  have hsz : vs.size = 2 := hargs.1.symm
  obtain ⟨v0, v1, rfl⟩ : ∃ v0 v1, vs = #[v0, v1] := by
    match vs, hsz with
    | ⟨[a, b]⟩, _ => exact ⟨a, b, rfl⟩
  have r0 := rep_str (hargs.2 0 _ v0 rfl rfl)
  have r1 := rep_str (hargs.2 1 _ v1 rfl rfl)
  subst r0
  subst r1
  refine ⟨_, ?_, .p (.i _ _)⟩
  rw [run_callFunc_extern (f := 83) (fn := Try.f83) (by kernel_rfl) (by kernel_rfl) (by kernel_rfl) (by kernel_rfl) (e := Extern.BytealgCompare.compare) (by kernel_rfl), Lib.run_compareString]
  rfl
theorem cst_calls (x y : ByteArray) : ACalls Try.prog 81 [.s x, .s y] [] (.i .i64 (cbs x y)) [] :=
  acalls_vc (vCSt_eq x y _) (by kernel_rfl) (by kernel_rfl) noK_runs ⟨_, cmpN x y _, rfl, rfl⟩
theorem sco_calls (x y : ByteArray) : ACalls Try.prog 78 [.s x, .s y] [] (.i .i64 (cbs x y)) [] :=
  acalls_vc (vSCo_eq x y _) (by kernel_rfl) (by kernel_rfl) noK_runs ⟨_, cst_calls x y, rfl, rfl⟩
def ordI (x y x' y' : ByteArray) : Int := bif decide (cbs x x' = 0) then cbs y y' else cbs x x'
theorem order_calls (x y x' y' : ByteArray) : ACalls Try.prog 67 [.ag [.s x, .s y], .ag [.s x', .s y']] [] (.i .i64 (ordI x y x' y')) [] :=
  acalls_vc (vOrder_eq x y x' y' _) (by kernel_rfl) (by kernel_rfl) noK_runs (by
    have h2 := sco_calls y y'
    simp only [vOrder, brP_iff, ordI]
    refine ⟨_, sco_calls x x', ?_⟩
    by_cases h : cbs x x' = 0
    · simp [h, h2]
    · simp [h])
theorem less_calls (h k : Held) : ACalls Try.prog 39 [.ag h.cells, .ag k.cells] [] (.b (decide (compareI h k < 0))) [] :=
  acalls_vc (vLess_eq h k _) (by kernel_rfl) (by kernel_rfl) noK_runs (by
    simp only [vLess, brP_iff]
    refine ⟨_, order_calls h.p h.t k.p k.t, ?_⟩
    have hl := cmp_lt h k
    have key : ∀ b : Bool, (b = true ↔ Lt h k) → AV.b b = AV.b (decide (compareI h k < 0)) ∧ True := by
      intro b hb
      refine ⟨?_, trivial⟩
      congr 1
      rw [Bool.eq_iff_iff, hb, decide_eq_true_eq, hl]
    have s1 : h.p = k.p ↔ cbs h.p k.p = 0 := ⟨fun e => by rw [e]; exact cbs_self _, cbs_zero⟩
    have s2 : h.t = k.t ↔ cbs h.t k.t = 0 := ⟨fun e => by rw [e]; exact cbs_self _, cbs_zero⟩
    unfold Lt at key
    simp only [s1, s2] at key
    unfold ordI
    generalize cbs h.p k.p = a at *
    generalize cbs h.t k.t = b at *
    by_cases ha : a = 0
    · subst ha
      simp only [decide_true, cond_true]
      refine ⟨fun h1 => key _ (by simp at h1 ⊢; omega), fun h1 => ⟨fun h2 => key _ (by simp at h1 h2 ⊢; omega), fun h2 => key _ (by simp at h1 h2 ⊢; omega)⟩⟩
    · simp only [ha, decide_false, cond_false]
      refine ⟨fun h1 => key _ (by simp [ha] at h1 ⊢), fun h1 => ?_⟩
      simp [ha] at h1)
/-! ### owned, find, with -/
theorem ow_loop (a b c : Int) (l : List Held) (o : ByteArray) (hl : l.length < 4294967296) : ∀ (k j : Nat), l.length - j = k → j ≤ l.length → Runs Try.prog 37 0 (hd Try.f37 3) (iOw a b c l o (cntO o (l.take j)) j) (RetR 0 [] (.i .i64 (cntO o l)) []) := by
  intro k
  induction k with
  | zero =>
    intro j hk hj
    have hj' : j = l.length := by omega
    subst hj'
    rw [List.take_length]
    refine runs_vc (vOwL_eq a b c l o _ _ (fun _ _ => False) _) (by kernel_rfl) (fun todo s h => Runs.cutA h (fun _ _ h => h.elim)) ?_
    simp [vOwL, brP_iff, rowH_len]
  | succ k ih =>
    intro j hk hj
    have hlt : j < l.length := by omega
    have htk : l.take j ++ [l[j]] = l.take (j+1) := (List.take_succ_eq_append_getElem hlt).symm
    have hcnt := cntO_le o (l.take j)
    have hcl : (l.take j).length ≤ l.length := by simp; omega
    refine runs_vc (vOwL_eq a b c l o _ j (fun id s => id = 3 ∧ s = iOw a b c l o (cntO o (l.take (j+1))) (j+1)) _) (by kernel_rfl) (fun todo s h => Runs.cutA h ?_) ?_
    · rintro id s' ⟨rfl, rfl⟩
      exact ih (j+1) (by omega) (by omega)
    · have hs := cntO_snoc o (l.take j) l[j]
      rw [htk] at hs
      have hg := rowH_get hlt
      simp only [vOwL, brP_iff]
      refine ⟨fun _ => ⟨by omega, by rw [rowH_len]; omega, exH hlt rfl ⟨fun h => ⟨by trivial, by trivial, ?_⟩, fun h => ⟨by trivial, by trivial, ?_⟩⟩⟩, fun h => absurd h (by simp [rowH_len]; omega)⟩
      · rw [strEq_iff] at h
        rw [if_pos h] at hs
        simp only [iOw]
        rw [wrap_id (by omega) (by omega), wrap_id (by omega) (by omega), hs]
        rfl
      · rw [strEq_ne] at h
        rw [if_neg h] at hs
        simp only [iOw]
        rw [wrap_id (by omega) (by omega), hs]
        rfl
theorem ow_calls (a b c : Int) (l : List Held) (o : ByteArray) (hl : l.length < 4294967296) : ACalls Try.prog 37 [qAV a b c (rowH l), .s o] [] (.i .i64 (cntO o l)) [] :=
  acalls_vc (vOw_eq a b c l o (fun id s => id = 3 ∧ s = iOw a b c l o (cntO o (l.take 0)) 0) _) (by kernel_rfl) (by kernel_rfl) (fun todo s h => Runs.cutA h (fun id s' e => by
    obtain ⟨rfl, rfl⟩ := e
    exact ow_loop a b c l o hl _ 0 rfl (Nat.zero_le _))) ⟨by trivial, by trivial, rfl⟩
theorem fi_loop (a b c : Int) (l : List Held) (m : Mom) (hl : l.length < 4294967296) : ∀ (k j : Nat), l.length - j = k → j ≤ l.length → Runs Try.prog 76 0 (hd Try.f76 2) (iFi a b c l m j) (RetR 0 [] (.i .i64 (idxP (heldB m) j (l.drop j))) []) := by
  intro k
  induction k with
  | zero =>
    intro j hk hj
    have hj' : j = l.length := by omega
    subst hj'
    refine runs_vc (vFiL_eq a b c l m _ (fun _ _ => False) _) (by kernel_rfl) (fun todo s h => Runs.cutA h (fun _ _ h => h.elim)) ?_
    simp [vFiL, brP_iff, rowH_len, idxP]
  | succ k ih =>
    intro j hk hj
    have hlt : j < l.length := by omega
    have hd : l.drop j = l[j] :: l.drop (j+1) := List.drop_eq_getElem_cons hlt
    have hw : IntKind.i64.wrap ((j : Int) + 1) = ((j + 1 : Nat) : Int) := by rw [wrap_id (by omega) (by omega)]; simp
    refine runs_vc (vFiL_eq a b c l m j (fun id s => id = 2 ∧ s = iFi a b c l m (j+1) ∧ heldB m l[j] = false) _) (by kernel_rfl) (fun todo s h => Runs.cutA h ?_) ?_
    · rintro id s' ⟨rfl, rfl, h0⟩
      have := ih (j+1) (by omega) (by omega)
      rw [hd]
      simpa only [idxP, h0, cond_false, Int.natCast_add, Int.cast_ofNat_Int] using this
    · have yes : heldB m l[j] = true → AV.i .i64 (j : Int) = AV.i .i64 (idxP (heldB m) j (l.drop j)) := by
        intro h
        rw [hd, idxP, h]
        rfl
      simp only [vFiL, brP_iff, hw]
      refine ⟨fun _ => ⟨by omega, by rw [rowH_len]; omega, exH hlt rfl ?_⟩, fun h => absurd h (by simp [rowH_len]; omega)⟩
      refine ⟨fun h1 => ⟨fun h2 => ⟨fun h3 => ⟨fun h4 => ⟨yes ?_, by trivial⟩, fun h4 => ⟨by trivial, by trivial, rfl, ?_⟩⟩, fun h3 => ⟨by trivial, by trivial, rfl, ?_⟩⟩, fun h2 => ⟨by trivial, by trivial, rfl, ?_⟩⟩, fun h1 => ⟨by trivial, by trivial, rfl, ?_⟩⟩
      all_goals (simp only [heldB]; grind)
theorem fi_calls (a b c : Int) (l : List Held) (m : Mom) (hl : l.length < 4294967296) : ACalls Try.prog 76 [qAV a b c (rowH l), .ag [.s m.p, .s m.t], .i .i64 m.e, .i .i64 m.now] [] (.i .i64 (idxP (heldB m) 0 l)) [] :=
  acalls_vc (vFi_eq a b c l m (fun id s => id = 2 ∧ s = iFi a b c l m 0) _) (by kernel_rfl) (by kernel_rfl) (fun todo s h => Runs.cutA h (fun id s' e => by
    obtain ⟨rfl, rfl⟩ := e
    exact fi_loop a b c l m hl _ 0 rfl (Nat.zero_le _))) ⟨by trivial, by trivial, rfl⟩
theorem with_calls (a b c : Int) (l : List Held) (i : Nat) (x : Held) (hi : i < l.length) (hl : l.length < 4294967296) : ACalls Try.prog 77 [qAV a b c (rowH l), .i .i64 i, .ag x.cells] [] (qAV a b c (rowH (l.set i x))) [] :=
  acalls_vc (vWith_eq a b c l i x _) (by kernel_rfl) (by kernel_rfl) noK_runs (by
    simp only [vWith, Int.toNat_natCast]
    refine ⟨by rw [rowH_len]; omega, by rw [rowH_len]; omega, rowH_all l, by omega, by rw [rowH_len]; omega, _, rowH_get hi, Nat.le_refl 8, ?_, by trivial⟩
    rw [rowH_set]
    rfl)
/-! ### Check -/
theorem ck12_loop (a b c : Int) (l : List Held) (i : Nat) (x : Held) (hi : i < l.length) (h32 : l.length ≤ 32) (rest : Bool)
    (hrest : Runs Try.prog 17 0 (hd Try.f17 4) (iCk4 a b c l (i+1)) (RetR 0 [] (.b rest) [])) :
    ∀ (k j : Nat), i - j = k → j ≤ i → Runs Try.prog 17 0 (hd Try.f17 12) (iCk12 a b c l i j x) (RetR 0 [] (.b (((l.take i).drop j).all (fun y => !meetsB y x && decide (compareI y x < 0)) && rest)) []) := by
  have hw : ∀ j : Nat, j < 1000 → IntKind.i64.wrap ((j : Int) + 1) = ((j + 1 : Nat) : Int) := fun j hj => by rw [wrap_id (by omega) (by omega)]; simp
  intro k
  induction k with
  | zero =>
    intro j hk hj
    have hj' : j = i := by omega
    subst hj'
    refine runs_vc (vCk12_eq a b c l j j x (fun id s => id = 4 ∧ s = iCk4 a b c l (j+1)) _) (by kernel_rfl) (fun todo s h => Runs.cutA h ?_) ?_
    · rintro id s' ⟨rfl, rfl⟩
      simpa using hrest
    · simp only [vCk12, brP_iff, hw j (by omega)]
      exact ⟨fun h => by simp at h, fun _ => ⟨by trivial, by trivial, rfl⟩⟩
  | succ k ih =>
    intro j hk hj
    have hlt : j < i := by omega
    have hltl : j < l.length := by omega
    have htl : (l.take i).length = i := by simp; omega
    have hd : (l.take i).drop j = l[j] :: (l.take i).drop (j+1) := by
      rw [List.drop_eq_getElem_cons (by omega)]
      simp
    refine runs_vc (vCk12_eq a b c l i j x (fun id s => id = 12 ∧ s = iCk12 a b c l i (j+1) x ∧ (!meetsB l[j] x && decide (compareI l[j] x < 0)) = true) _) (by kernel_rfl) (fun todo s h => Runs.cutA h ?_) ?_
    · rintro id s' ⟨rfl, rfl, h0⟩
      have := ih (j+1) (by omega) (by omega)
      rw [hd, List.all_cons, h0, Bool.true_and]
      exact this
    · simp only [vCk12, brP_iff, hw j (by omega)]
      refine ⟨fun _ => ⟨by omega, by rw [rowH_len]; omega, exH hltl rfl ⟨meetsB l[j] x, meet_calls _ _, fun h1 => ⟨by trivial, ?_, by trivial⟩, fun h1 => ⟨by omega, by rw [rowH_len]; omega, exH hltl rfl ⟨_, less_calls _ _, by trivial, fun h2 => ⟨?_, by trivial⟩, fun h2 => ⟨by trivial, by trivial, rfl, ?_⟩⟩⟩⟩⟩, fun h => absurd h (by simp; omega)⟩
      · rw [hd, List.all_cons, h1]; rfl
      · rw [hd, List.all_cons]
        have : decide (compareI l[j] x < 0) = false := by simpa using h2
        rw [this, Bool.and_false, Bool.false_and, Bool.false_and]
      · have : decide (compareI l[j] x < 0) = true := by simpa using h2
        rw [h1, this]
        rfl
theorem ck4_loop (a b c : Int) (l : List Held) (h32 : l.length ≤ 32) : ∀ (k i : Nat), l.length - i = k → i ≤ l.length →
    Runs Try.prog 17 0 (hd Try.f17 4) (iCk4 a b c l i) (RetR 0 [] (.b (ck2 a c l (l.take i) (l.drop i))) []) := by
  intro k
  induction k with
  | zero =>
    intro i hk hi
    have hi' : i = l.length := by omega
    subst hi'
    refine runs_vc (vCk4_eq a b c l _ (fun _ _ => False) _) (by kernel_rfl) (fun todo s h => Runs.cutA h (fun _ _ h => h.elim)) ?_
    simp only [vCk4, brP_iff, rowH_len]
    exact ⟨fun h => by simp at h, fun _ => ⟨by simp [ck2], by trivial⟩⟩
  | succ k ih =>
    intro i hk hi
    have hlt : i < l.length := by omega
    have htk : l.take i ++ [l[i]] = l.take (i+1) := (List.take_succ_eq_append_getElem hlt).symm
    have hd : l.drop i = l[i] :: l.drop (i+1) := List.drop_eq_getElem_cons hlt
    have hnext := ih (i+1) (by omega) (by omega)
    have hin := ck12_loop a b c l i l[i] hlt h32 _ hnext _ 0 rfl (Nat.zero_le _)
    rw [List.drop_zero] at hin
    have hfold : ck2 a c l (l.take i) (l.drop i) = (entryB c l[i] && decide ((cntO l[i].by' l : Int) ≤ a) && ((l.take i).all (fun y => !meetsB y l[i] && decide (compareI y l[i] < 0)) && ck2 a c l (l.take (i+1)) (l.drop (i+1)))) := by
      rw [hd, ck2, htk, Bool.and_assoc]
    refine runs_vc (vCk4_eq a b c l i (fun id s => id = 12 ∧ s = iCk12 a b c l i 0 l[i] ∧ (entryB c l[i] && decide ((cntO l[i].by' l : Int) ≤ a)) = true) _) (by kernel_rfl) (fun todo s h => Runs.cutA h ?_) ?_
    · rintro id s' ⟨rfl, rfl, h0⟩
      rw [hfold, h0, Bool.true_and]
      exact hin
    · have no : entryB c l[i] = false ∨ decide ((cntO l[i].by' l : Int) ≤ a) = false → AV.b false = AV.b (ck2 a c l (l.take i) (l.drop i)) := by
        intro h
        rw [hfold]
        rcases h with h | h <;> simp [h]
      generalize hx : l[i] = x at *
      have hwho : whoB x = usbB x.p x.t x.by' x.e := rfl
      have hent : entryB c x = (usbB x.p x.t x.by' x.e && decide (0 ≤ x.f) && decide (x.f < x.u) && decide (x.u ≤ 1073741824) && decide (0 ≤ x.r) && decide (x.r ≤ 1) && decide (0 ≤ x.c) && decide (x.c ≤ 1073741824) && decide (IntKind.i64.wrap (x.u - x.f) ≤ IntKind.i64.wrap (c * IntKind.i64.wrap (1 + x.r)))) := by
        rw [← hwho]; rfl
      simp only [vCk4, brP_iff]
      refine ⟨fun _ => ⟨by omega, by rw [rowH_len]; omega, ?_⟩, fun h => absurd h (by simp [rowH_len]; omega)⟩
      refine ⟨x.p, x.t, x.e, x.by', x.f, x.u, x.r, x.c, by rw [Int.toNat_natCast, rowH_get hlt, hx]; rfl, rfl, usbB x.p x.t x.by' x.e, usb_calls x.p x.t x.by' x.e, fun h1 => ⟨no (.inl ?_), by trivial⟩, fun h1 => ⟨fun h2 => ⟨no (.inl ?_), by trivial⟩, fun h2 => ⟨fun h3 => ⟨no (.inl ?_), by trivial⟩, fun h3 => ⟨fun h4 => ⟨no (.inl ?_), by trivial⟩, fun h4 => ⟨fun h5 => ⟨no (.inl ?_), by trivial⟩, fun h5 => ⟨fun h6 => ⟨no (.inl ?_), by trivial⟩, fun h6 => ⟨fun h7 => ⟨no (.inl ?_), by trivial⟩, fun h7 => ⟨fun h8 => ⟨by trivial, no (.inl ?_), by trivial⟩, fun h8 => ⟨fun h9 => ⟨by trivial, no (.inl ?_), by trivial⟩, fun h9 => ?_⟩⟩⟩⟩⟩⟩⟩⟩⟩
      all_goals try (rw [hent]; generalize usbB x.p x.t x.by' x.e = ub at *; grind)
      refine ⟨(cntO x.by' l : Int), ow_calls a b c l x.by' (by omega), by trivial, fun h10 => ⟨no (.inr ?_), by trivial⟩, fun h10 => ⟨by trivial, by trivial, rfl, ?_⟩⟩
      · simp at h10 ⊢; omega
      · have e1 : decide ((cntO x.by' l : Int) ≤ a) = true := by simp at h10 ⊢; omega
        rw [e1, Bool.and_true, hent]
        generalize usbB x.p x.t x.by' x.e = ub at *
        grind
theorem check2_calls (a b c : Int) (l : List Held) : ACalls Try.prog 17 [qAV a b c (rowH l)] [] (.b (checkB a b c l)) [] := by
  rw [← ck2_check]
  refine acalls_vc (vCk0_eq a b c l (fun id s => id = 4 ∧ s = iCk4 a b c l 0 ∧ (sizesB a b c && decide ((l.length : Int) ≤ b)) = true ∧ l.length ≤ 32) _) (by kernel_rfl) (by kernel_rfl) (fun todo s h => Runs.cutA h (fun id s' e => ?_)) ?_
  · obtain ⟨rfl, rfl, h0, h32⟩ := e
    rw [h0, Bool.true_and]
    exact ck4_loop a b c l h32 _ 0 rfl (Nat.zero_le _)
  · simp only [vCk0, brP_iff, rowH_len]
    refine ⟨sizesB a b c, numbers_calls a b c, fun h => ⟨?_, by trivial⟩, fun h => ⟨fun h2 => ⟨?_, by trivial⟩, fun h2 => ⟨by trivial, by trivial, rfl, ?_, ?_⟩⟩⟩
    · have : sizesB a b c = false := by simpa using h
      simp [this]
    · have : decide ((l.length : Int) ≤ b) = false := by simp at h2 ⊢; omega
      rw [this, Bool.and_false, Bool.false_and]
    · have e1 : sizesB a b c = true := by simpa using h
      have e2 : decide ((l.length : Int) ≤ b) = true := by simp at h2 ⊢; omega
      rw [e1, e2]; rfl
    · have e1 : sizesB a b c = true := by simpa using h
      simp only [sizesB, Bool.and_eq_true, decide_eq_true_eq] at e1
      simp at h2
      omega
end Go.AM.Q
