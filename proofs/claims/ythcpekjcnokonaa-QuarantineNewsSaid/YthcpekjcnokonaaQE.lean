/- Quarantine: contracts of closures, of the library's functions on entries, of Load, find and Active. -/
import Derived.Test.YthcpekjcnokonaaQD
set_option maxRecDepth 100000
set_option linter.unusedVariables false
set_option linter.unusedSimpArgs false
namespace Go.AM.Q
open Go.Proofs
theorem exH {l : List Held} {k : Nat} (hk : k < l.length) {R : ByteArray → ByteArray → Int → ByteArray → Int → Int → Int → Int → Prop} {Z : ByteArray → ByteArray → Int → ByteArray → Int → Int → Int → Int → List AV}
    (hZ : (Z l[k].p l[k].t l[k].e l[k].by' l[k].f l[k].u l[k].r l[k].c).length = 8) (h : R l[k].p l[k].t l[k].e l[k].by' l[k].f l[k].u l[k].r l[k].c) :
    ∃ x1 x2 n x3 n1 n2 n3 n4, (rowH l)[k]? = some [.s x1, .s x2, .i .i64 n, .s x3, .i .i64 n1, .i .i64 n2, .i .i64 n3, .i .i64 n4] ∧ (Z x1 x2 n x3 n1 n2 n3 n4).length = 8 ∧ R x1 x2 n x3 n1 n2 n3 n4 :=
  ⟨_, _, _, _, _, _, _, _, rowH_get hk, hZ, h⟩
/-- Is the entry active at the moment? -/
def heldB (m : Mom) (h : Held) : Bool := strEq h.p m.p && strEq h.t m.t && decide (h.e = m.e) && decide (h.f ≤ m.now) && decide (m.now < h.u)
theorem heldM_calls (m : Mom) (h : Held) : ACalls Try.prog 70 [.ag m.cells, .ag h.cells] [] (.b (heldB m h)) [] :=
  acalls_vc (vHeldM_eq m h _) (by kernel_rfl) (by kernel_rfl) noK_runs (by
    simp only [vHeldM, brP_iff, heldB]
    grind)
theorem add1_calls (x h : Held) : ACalls Try.prog 46 [.ag h.cells, .pp x.cells] [] (.b (meetsB x h)) [] :=
  acalls_vc (vAdd1_eq x h _) (by kernel_rfl) (by kernel_rfl) noK_runs ⟨_, meets_calls x h, by trivial, by trivial⟩
theorem add2_calls (x h : Held) : ACalls Try.prog 48 [.ag x.cells, .ag h.cells] [] (.i .i64 (compareI x h)) [] :=
  acalls_vc (vAdd2_eq x h _) (by kernel_rfl) (by kernel_rfl) noK_runs ⟨_, compare_calls x h, by trivial, by trivial⟩
def renB (was longer h : Held) : Bool := !heldEq h was && meetsB longer h
theorem ren11_calls (h was longer : Held) : ACalls Try.prog 55 [.ag h.cells, .pp was.cells, .pp longer.cells] [] (.b (renB was longer h)) [] :=
  acalls_vc (vRen11_eq h was longer _) (by kernel_rfl) (by kernel_rfl) noK_runs (by
    have hm := meets_calls longer h
    simp only [vRen11, brP_iff, renB, heldEq]
    refine ⟨fun h1 => ⟨_, hm, ?_, by trivial⟩, fun h1 => ⟨?_, by trivial⟩⟩
    · grind
    · grind)
/-- The place of the first entry of which p holds, or -1. -/
def idxP (p : Held → Bool) (k : Int) : List Held → Int
  | [] => -1
  | h :: r => bif p h then k else idxP p (k + 1) r
theorem idxP_rng (p : Held → Bool) : ∀ (l : List Held) (k : Int), idxP p k l = -1 ∨ (k ≤ idxP p k l ∧ idxP p k l < k + l.length)
  | [], k => .inl rfl
  | h :: r, k => by
    unfold idxP
    cases p h with
    | true => right; simp; omega
    | false =>
      rcases idxP_rng p r (k + 1) with h1 | ⟨h1, h2⟩
      · exact .inl h1
      · right; simp only [cond_false, List.length_cons]; omega
theorem idxP_any (p : Held → Bool) : ∀ (l : List Held) (k : Int), 0 ≤ k → decide (0 ≤ idxP p k l) = l.any p
  | [], k, hk => rfl
  | h :: r, k, hk => by
    unfold idxP
    cases hp : p h with
    | true => simp [hp, hk]
    | false => simp [hp, idxP_any p r (k + 1) (by omega)]
theorem ixlH (m : Mom) (l : List Held) (hl : l.length < 4294967296) : ∀ (k j : Nat), l.length - j = k → j ≤ l.length → Runs Try.prog 69 0 (hd Try.f69 2) (iIx l (.fn 70 [.ag m.cells] []) j) (RetR 0 [] (.i .i64 (idxP (heldB m) j (l.drop j))) []) := by
  intro k
  induction k with
  | zero =>
    intro j hk hj
    have hj' : j = l.length := by omega
    subst hj'
    refine runs_vc (vIxLH_eq m l _ (fun _ => False) _) (by kernel_rfl) (fun todo s h => Runs.head h (fun _ h => h.elim)) ?_
    simp [vIxLH, brP_iff, rowH_len, idxP]
  | succ k ih =>
    intro j hk hj
    have hlt : j < l.length := by omega
    have hd : l.drop j = l[j] :: l.drop (j+1) := List.drop_eq_getElem_cons hlt
    refine runs_vc (vIxLH_eq m l j (fun s => s = iIx l (.fn 70 [.ag m.cells] []) (j+1) ∧ (heldB m) l[j] = false) _) (by kernel_rfl) (fun todo s h => Runs.head h ?_) ?_
    · rintro s' ⟨rfl, h0⟩
      have := ih (j+1) (by omega) (by omega)
      rw [hd]
      simpa only [idxP, h0, cond_false, Int.natCast_add, Int.cast_ofNat_Int] using this
    · simp only [vIxLH, brP_iff]
      refine ⟨fun _ => ⟨by omega, by rw [rowH_len]; omega, exH hlt rfl ⟨(heldB m) l[j], (heldM_calls m) l[j], fun h => ⟨?_, by trivial⟩, fun h => ⟨by trivial, ?_, h⟩⟩⟩, fun h => absurd h (by simp [rowH_len]; omega)⟩
      · rw [hd, idxP, h]; rfl
      · rw [wrap_id (by omega) (by omega)]; rfl
theorem ixH_calls (m : Mom) (l : List Held) (hl : l.length < 4294967296) : ACalls Try.prog 69 [.sl (rowH l), (.fn 70 [.ag m.cells] [])] [] (.i .i64 (idxP (heldB m) 0 l)) [] :=
  acalls_vc (vIxH_eq m l (fun s => s = iIx l (.fn 70 [.ag m.cells] []) 0) _) (by kernel_rfl) (by kernel_rfl) (fun todo s h => Runs.head h (fun s' e => by subst e; exact ixlH m l hl _ 0 rfl (Nat.zero_le _))) ⟨rfl, rfl⟩
theorem cfH_calls (m : Mom) (l : List Held) (hl : l.length < 4294967296) : ACalls Try.prog 45 [.sl (rowH l), (.fn 70 [.ag m.cells] [])] [] (.b (l.any (heldB m))) [] :=
  acalls_vc (vCfH_eq m l _) (by kernel_rfl) (by kernel_rfl) noK_runs ⟨_, ixH_calls m l hl, by rw [← idxP_any (heldB m) l 0 (Int.le_refl 0)], rfl⟩
theorem ixlA (x : Held) (l : List Held) (hl : l.length < 4294967296) : ∀ (k j : Nat), l.length - j = k → j ≤ l.length → Runs Try.prog 69 0 (hd Try.f69 2) (iIx l (.fn 46 [] [.pp x.cells]) j) (RetR 0 [] (.i .i64 (idxP (meetsB x) j (l.drop j))) []) := by
  intro k
  induction k with
  | zero =>
    intro j hk hj
    have hj' : j = l.length := by omega
    subst hj'
    refine runs_vc (vIxLA_eq x l _ (fun _ => False) _) (by kernel_rfl) (fun todo s h => Runs.head h (fun _ h => h.elim)) ?_
    simp [vIxLA, brP_iff, rowH_len, idxP]
  | succ k ih =>
    intro j hk hj
    have hlt : j < l.length := by omega
    have hd : l.drop j = l[j] :: l.drop (j+1) := List.drop_eq_getElem_cons hlt
    refine runs_vc (vIxLA_eq x l j (fun s => s = iIx l (.fn 46 [] [.pp x.cells]) (j+1) ∧ (meetsB x) l[j] = false) _) (by kernel_rfl) (fun todo s h => Runs.head h ?_) ?_
    · rintro s' ⟨rfl, h0⟩
      have := ih (j+1) (by omega) (by omega)
      rw [hd]
      simpa only [idxP, h0, cond_false, Int.natCast_add, Int.cast_ofNat_Int] using this
    · simp only [vIxLA, brP_iff]
      refine ⟨fun _ => ⟨by omega, by rw [rowH_len]; omega, exH hlt rfl ⟨(meetsB x) l[j], (add1_calls x) l[j], fun h => ⟨?_, by trivial⟩, fun h => ⟨by trivial, ?_, h⟩⟩⟩, fun h => absurd h (by simp [rowH_len]; omega)⟩
      · rw [hd, idxP, h]; rfl
      · rw [wrap_id (by omega) (by omega)]; rfl
theorem ixA_calls (x : Held) (l : List Held) (hl : l.length < 4294967296) : ACalls Try.prog 69 [.sl (rowH l), (.fn 46 [] [.pp x.cells])] [] (.i .i64 (idxP (meetsB x) 0 l)) [] :=
  acalls_vc (vIxA_eq x l (fun s => s = iIx l (.fn 46 [] [.pp x.cells]) 0) _) (by kernel_rfl) (by kernel_rfl) (fun todo s h => Runs.head h (fun s' e => by subst e; exact ixlA x l hl _ 0 rfl (Nat.zero_le _))) ⟨rfl, rfl⟩
theorem cfA_calls (x : Held) (l : List Held) (hl : l.length < 4294967296) : ACalls Try.prog 45 [.sl (rowH l), (.fn 46 [] [.pp x.cells])] [] (.b (l.any (meetsB x))) [] :=
  acalls_vc (vCfA_eq x l _) (by kernel_rfl) (by kernel_rfl) noK_runs ⟨_, ixA_calls x l hl, by rw [← idxP_any (meetsB x) l 0 (Int.le_refl 0)], rfl⟩
theorem ixlR (x y : Held) (l : List Held) (hl : l.length < 4294967296) : ∀ (k j : Nat), l.length - j = k → j ≤ l.length → Runs Try.prog 69 0 (hd Try.f69 2) (iIx l (.fn 55 [] [.pp x.cells, .pp y.cells]) j) (RetR 0 [] (.i .i64 (idxP (renB x y) j (l.drop j))) []) := by
  intro k
  induction k with
  | zero =>
    intro j hk hj
    have hj' : j = l.length := by omega
    subst hj'
    refine runs_vc (vIxLR_eq x y l _ (fun _ => False) _) (by kernel_rfl) (fun todo s h => Runs.head h (fun _ h => h.elim)) ?_
    simp [vIxLR, brP_iff, rowH_len, idxP]
  | succ k ih =>
    intro j hk hj
    have hlt : j < l.length := by omega
    have hd : l.drop j = l[j] :: l.drop (j+1) := List.drop_eq_getElem_cons hlt
    refine runs_vc (vIxLR_eq x y l j (fun s => s = iIx l (.fn 55 [] [.pp x.cells, .pp y.cells]) (j+1) ∧ (renB x y) l[j] = false) _) (by kernel_rfl) (fun todo s h => Runs.head h ?_) ?_
    · rintro s' ⟨rfl, h0⟩
      have := ih (j+1) (by omega) (by omega)
      rw [hd]
      simpa only [idxP, h0, cond_false, Int.natCast_add, Int.cast_ofNat_Int] using this
    · simp only [vIxLR, brP_iff]
      refine ⟨fun _ => ⟨by omega, by rw [rowH_len]; omega, exH hlt rfl ⟨(renB x y) l[j], (fun h => ren11_calls h x y) l[j], fun h => ⟨?_, by trivial⟩, fun h => ⟨by trivial, ?_, h⟩⟩⟩, fun h => absurd h (by simp [rowH_len]; omega)⟩
      · rw [hd, idxP, h]; rfl
      · rw [wrap_id (by omega) (by omega)]; rfl
theorem ixR_calls (x y : Held) (l : List Held) (hl : l.length < 4294967296) : ACalls Try.prog 69 [.sl (rowH l), (.fn 55 [] [.pp x.cells, .pp y.cells])] [] (.i .i64 (idxP (renB x y) 0 l)) [] :=
  acalls_vc (vIxR_eq x y l (fun s => s = iIx l (.fn 55 [] [.pp x.cells, .pp y.cells]) 0) _) (by kernel_rfl) (by kernel_rfl) (fun todo s h => Runs.head h (fun s' e => by subst e; exact ixlR x y l hl _ 0 rfl (Nat.zero_le _))) ⟨rfl, rfl⟩
theorem cfR_calls (x y : Held) (l : List Held) (hl : l.length < 4294967296) : ACalls Try.prog 45 [.sl (rowH l), (.fn 55 [] [.pp x.cells, .pp y.cells])] [] (.b (l.any (renB x y))) [] :=
  acalls_vc (vCfR_eq x y l _) (by kernel_rfl) (by kernel_rfl) noK_runs ⟨_, ixR_calls x y l hl, by rw [← idxP_any (renB x y) l 0 (Int.le_refl 0)], rfl⟩
theorem find_calls (a b c : Int) (l : List Held) (m : Mom) (hl : l.length < 4294967296) : ACalls Try.prog 42 [qAV a b c (rowH l), .ag [.s m.p, .s m.t], .i .i64 m.e, .i .i64 m.now] [] (.i .i64 (idxP (heldB m) 0 l)) [] :=
  acalls_vc (vFind_eq a b c l m _) (by kernel_rfl) (by kernel_rfl) noK_runs ⟨_, ixH_calls m l hl, rfl, rfl⟩
theorem ck_len {a b c : Int} {l : List Held} (h : checkB a b c l = true) : l.length ≤ 32 := by
  simp only [checkB, sizesB, Bool.and_eq_true, decide_eq_true_eq] at h
  omega
theorem ld_loop (a b c : Int) (l : List Held) (o : ByteArray) (hl : l.length ≤ 32) : ∀ (k j : Nat), l.length - j = k → j ≤ l.length → Runs Try.prog 20 0 (hd Try.f20 5) (iLd a b c l o j (cntO o (l.take j))) (RetR 0 [] (.i .i64 (cntO o l)) []) := by
  intro k
  induction k with
  | zero =>
    intro j hk hj
    have hj' : j = l.length := by omega
    subst hj'
    refine runs_vc (vLoadL_eq a b c l o _ _ (fun _ => False) _) (by kernel_rfl) (fun todo s h => Runs.head h (fun _ h => h.elim)) ?_
    simp [vLoadL, brP_iff, rowH_len]
  | succ k ih =>
    intro j hk hj
    have hlt : j < l.length := by omega
    have htk : l.take j ++ [l[j]] = l.take (j+1) := (List.take_succ_eq_append_getElem hlt).symm
    have hcnt := cntO_le o (l.take j)
    have hcl : (l.take j).length ≤ 32 := by simp; omega
    refine runs_vc (vLoadL_eq a b c l o j _ (fun s => s = iLd a b c l o (j+1) (cntO o (l.take (j+1)))) _) (by kernel_rfl) (fun todo s h => Runs.head h ?_) ?_
    · rintro s' rfl
      exact ih (j+1) (by omega) (by omega)
    · simp only [vLoadL, brP_iff]
      have hs := cntO_snoc o (l.take j) l[j]
      rw [htk] at hs
      refine ⟨fun _ => ⟨by omega, by rw [rowH_len]; omega, exH hlt rfl ⟨fun h => ⟨by trivial, ?_⟩, fun h => ⟨by trivial, ?_⟩⟩⟩, fun h => absurd h (by simp [rowH_len]; omega)⟩
      · rw [strEq_iff] at h
        rw [if_pos h] at hs
        simp only [iLd]
        rw [wrap_id (by omega) (by omega), wrap_id (by omega) (by omega), hs]
        rfl
      · rw [strEq_ne] at h
        rw [if_neg h] at hs
        simp only [iLd]
        rw [wrap_id (by omega) (by omega), hs]
        rfl
def loadI (a b c : Int) (l : List Held) (o : ByteArray) : Int := bif checkB a b c l then cntO o l else 0
theorem load_calls (a b c : Int) (l : List Held) (o : ByteArray) : ACalls Try.prog 20 [qAV a b c (rowH l), .s o] [] (.i .i64 (loadI a b c l o)) [] :=
  acalls_vc (vLoad_eq a b c l o (fun s => s = iLd a b c l o 0 (cntO o (l.take 0)) ∧ checkB a b c l = true) _) (by kernel_rfl) (by kernel_rfl) (fun todo s h => Runs.head h (fun s' e => by
    obtain ⟨rfl, e⟩ := e
    have := ld_loop a b c l o (ck_len e) _ 0 rfl (Nat.zero_le _)
    rw [show loadI a b c l o = cntO o l by simp [loadI, e]]
    exact this)) (by
    simp only [vLoad, brP_iff]
    refine ⟨checkB a b c l, check_calls a b c l, fun h => ⟨?_, by trivial⟩, fun h => ⟨by trivial, rfl, by simpa using h⟩⟩
    have : checkB a b c l = false := by simpa using h
    simp [loadI, this])
def Held.none : Held := ⟨⟨#[]⟩, ⟨#[]⟩, 0, ⟨#[]⟩, 0, 0, 0, 0⟩
/-- What Active gives. -/
def activeR (a b c : Int) (l : List Held) (m : Mom) : AV :=
  bif checkB a b c l then (match l.find? (heldB m) with
    | some h => .tup [.ag h.cells, .b true]
    | none => .tup [.ag Held.none.cells, .b false]) else .tup [.ag Held.none.cells, .b false]
theorem idxP_find (p : Held → Bool) : ∀ (l : List Held) (k : Int), 0 ≤ k → (l.find? p = none ∧ idxP p k l = -1) ∨ ∃ h i, l.find? p = some h ∧ idxP p k l = k + (i : Nat) ∧ l[i]? = some h ∧ i = l.findIdx p
  | [], k, hk => .inl ⟨rfl, rfl⟩
  | h :: r, k, hk => by
    unfold idxP
    cases hp : p h with
    | true => exact .inr ⟨h, 0, by simp [hp], by simp, rfl, by simp [List.findIdx_cons, hp]⟩
    | false =>
      rcases idxP_find p r (k + 1) (by omega) with ⟨h1, h2⟩ | ⟨x, i, h1, h2, h3, h4⟩
      · exact .inl ⟨by simp [hp, h1], h2⟩
      · exact .inr ⟨x, i + 1, by simp [hp, h1], by simp only [cond_false, h2]; omega, by simpa using h3, by simp [List.findIdx_cons, hp, h4]⟩
theorem active_calls (a b c : Int) (l : List Held) (m : Mom) : ACalls Try.prog 22 [qAV a b c (rowH l), .ag [.s m.p, .s m.t], .i .i64 m.e, .i .i64 m.now] [] (activeR a b c l m) [] :=
  acalls_vc (vActive_eq a b c l m _) (by kernel_rfl) (by kernel_rfl) noK_runs (by
    simp only [vActive, brP_iff]
    refine ⟨checkB a b c l, check_calls a b c l, fun h => ⟨?_, by trivial⟩, fun h => ?_⟩
    · have : checkB a b c l = false := by simpa using h
      simp [activeR, this, Held.none, Held.cells]
    · have hc : checkB a b c l = true := by simpa using h
      have hl := ck_len hc
      refine ⟨_, find_calls a b c l m (by omega), fun h2 => ⟨?_, by trivial⟩, fun h2 => ?_⟩
      · rcases idxP_find (heldB m) l 0 (Int.le_refl 0) with ⟨h3, h4⟩ | ⟨x, i, h3, h4, h5⟩
        · simp [activeR, hc, h3, Held.none, Held.cells]
        · rw [h4] at h2; simp at h2; omega
      · rcases idxP_find (heldB m) l 0 (Int.le_refl 0) with ⟨h3, h4⟩ | ⟨x, i, h3, h4, h5, _⟩
        · rw [h4] at h2; simp at h2
        · have hi := (List.getElem?_eq_some_iff.1 h5).1
          have hx := (List.getElem?_eq_some_iff.1 h5).2
          rw [h4]
          refine ⟨by omega, by rw [rowH_len]; omega, ?_⟩
          rw [show (0 + (i : Int)).toNat = i by omega]
          refine exH hi rfl ⟨?_, by trivial⟩
          simp [activeR, hc, h3, hx, Held.cells])
end Go.AM.Q
