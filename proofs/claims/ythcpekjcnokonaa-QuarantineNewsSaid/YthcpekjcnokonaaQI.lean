/- Quarantine: contracts of Add, Renew, Release, Charge and Expire. -/
import Derived.Test.YthcpekjcnokonaaQH
set_option maxRecDepth 100000
set_option linter.unusedVariables false
set_option linter.unusedSimpArgs false
namespace Go.AM.Q
open Go.Proofs
/-- An error, with no quarantine. -/
def errQ (e : Int) : AV := .tup [qAV 0 0 0 [], .i .i64 e]
def okQ (a b c : Int) (l : List Held) : AV := .tup [qAV a b c (rowH l), .i .i64 0]
theorem rowH_noU (l : List Held) : noU (rowH l) := by
  intro x hx y hy
  obtain ⟨h, _, rfl⟩ := List.mem_map.1 hx
  simp only [Held.cells, List.mem_cons, List.not_mem_nil, or_false] at hy
  rcases hy with rfl | rfl | rfl | rfl | rfl | rfl | rfl | rfl <;> simp
theorem cells_noU (h : Held) : ∀ c ∈ h.cells, c ≠ .u := by
  intro y hy
  simp only [Held.cells, List.mem_cons, List.not_mem_nil, or_false] at hy
  rcases hy with rfl | rfl | rfl | rfl | rfl | rfl | rfl | rfl <;> simp
theorem wrapU_id {n : Int} (h1 : 0 ≤ n) (h2 : n < 18446744073709551616) : IntKind.u64.wrap n = n := by
  (simp [IntKind.wrap, IntKind.bits, IntKind.signed]; omega)
/-! ### BinarySearchFunc -/
def bsF (p : Nat → Bool) : Nat → Nat → Nat → Nat
  | 0, i, _ => i
  | n + 1, i, j => if i < j then (bif p ((i + j) / 2) then bsF p n ((i + j) / 2 + 1) j else bsF p n i ((i + j) / 2)) else i
def ltAt (l : List Held) (x : Held) (h : Nat) : Bool := match l[h]? with
  | some y => decide (compareI y x < 0)
  | none => false
def bsI (l : List Held) (x : Held) : Nat := bsF (ltAt l x) l.length 0 l.length
def eqAt (l : List Held) (x : Held) (h : Nat) : Bool := match l[h]? with
  | some y => decide (compareI y x = 0)
  | none => false
theorem bsF_le (p : Nat → Bool) : ∀ (n i j : Nat), i ≤ j → i ≤ bsF p n i j ∧ bsF p n i j ≤ j
  | 0, i, j, h => by simp [bsF, h]
  | n + 1, i, j, h => by
    unfold bsF
    split
    · cases p ((i + j) / 2) with
      | true => have := bsF_le p n ((i + j) / 2 + 1) j (by omega); simp only [cond_true]; omega
      | false => have := bsF_le p n i ((i + j) / 2) (by omega); simp only [cond_false]; omega
    · omega
theorem bs_loop (l : List Held) (x : Held) (hl : l.length ≤ 4294967296) : ∀ (n i j : Nat), j - i ≤ n → i ≤ j → j ≤ l.length →
    Runs Try.prog 47 0 (hd Try.f47 3) (iBs l x i j)
      (RetR 0 [] (.tup [.i .i64 (bsF (ltAt l x) n i j), .b (eqAt l x (bsF (ltAt l x) n i j))]) []) := by
  intro n
  have fin : ∀ (i j : Nat), i = j → j ≤ l.length → Runs Try.prog 47 0 (hd Try.f47 3) (iBs l x i j) (RetR 0 [] (.tup [.i .i64 i, .b (eqAt l x i)]) []) := by
    intro i j hij hj
    subst hij
    refine runs_vc (vBsL_eq l x i i (fun _ => False) _) (by kernel_rfl) (fun todo s h => Runs.head h (fun _ h => h.elim)) ?_
    simp only [vBsL, brP_iff]
    refine ⟨fun h => by simp at h, fun _ => ⟨fun h => ?_, fun h => ⟨by trivial, ?_, by trivial⟩⟩⟩
    · have hlt : i < l.length := by simpa [rowH_len] using h
      refine ⟨by omega, by rw [rowH_len]; omega, exH (k := i) hlt rfl ⟨compareI l[i] x, add2_calls l[i] x, by trivial, ?_, by trivial⟩⟩
      have : eqAt l x i = decide (compareI l[i] x = 0) := by simp [eqAt, hlt]
      rw [this]
    · have hlt : ¬ i < l.length := by simpa [rowH_len] using h
      have : eqAt l x i = false := by simp [eqAt, hlt]
      rw [this]
  induction n with
  | zero =>
    intro i j h1 h2 h3
    exact fin i j (by omega) h3
  | succ n ih =>
    intro i j h1 h2 h3
    unfold bsF
    by_cases hij : i < j
    · rw [if_pos hij]
      have hlt : (i + j) / 2 < l.length := by omega
      have hmid : IntKind.i64.wrap (Int.fdiv (IntKind.u64.wrap (IntKind.i64.wrap ((i : Int) + (j : Int)))) 2) = (((i + j) / 2 : Nat) : Int) := by
        rw [wrap_id (n := (i : Int) + j) (by omega) (by omega), wrapU_id (by omega) (by omega), Int.fdiv_eq_ediv_of_nonneg _ (by omega), wrap_id (by omega) (by omega)]
        omega
      have hlt' : ltAt l x ((i + j) / 2) = decide (compareI l[(i + j) / 2] x < 0) := by simp [ltAt, hlt]
      refine runs_vc (vBsL_eq l x i j (fun s => (ltAt l x ((i + j) / 2) = true ∧ s = iBs l x ((i + j) / 2 + 1) j) ∨ (ltAt l x ((i + j) / 2) = false ∧ s = iBs l x i ((i + j) / 2))) _) (by kernel_rfl) (fun todo s h => Runs.head h ?_) ?_
      · rintro s' (⟨e, rfl⟩ | ⟨e, rfl⟩)
        · rw [e]; exact ih _ _ (by omega) (by omega) h3
        · rw [e]; exact ih _ _ (by omega) (by omega) (by omega)
      · simp only [vBsL, brP_iff, hmid]
        refine ⟨fun _ => ⟨by omega, by omega, by rw [rowH_len]; omega, ?_⟩, fun h => by simp at h; omega⟩
        rw [Int.toNat_natCast]
        refine exH hlt rfl ⟨compareI l[(i + j) / 2] x, add2_calls _ x, by trivial, fun h => ⟨by trivial, .inl ⟨by rw [hlt']; exact h, ?_⟩⟩, fun h => ⟨by trivial, .inr ⟨by rw [hlt']; exact h, rfl⟩⟩⟩
        rw [wrap_id (by omega) (by omega)]
        rfl
    · rw [if_neg hij]
      exact fin i j (by omega) h3
theorem bs_calls (l : List Held) (x : Held) (hl : l.length ≤ 4294967296) : ACalls Try.prog 47 [.sl (rowH l), .ag x.cells, .fn 48 [] []] [] (.tup [.i .i64 (bsI l x), .b (eqAt l x (bsI l x))]) [] :=
  acalls_vc (vBs_eq l x (fun s => s = iBs l x 0 l.length) _) (by kernel_rfl) (by kernel_rfl) (fun todo s h => Runs.head h (fun s' e => by
    subst e
    exact bs_loop l x hl l.length 0 l.length (by omega) (by omega) (Nat.le_refl _))) (by
    refine ⟨by trivial, ?_⟩
    simp only [iBs, rowH_len]
    rfl)
/-! ### Add -/
def addE (a b c : Int) (l : List Held) (x : Held) : Int :=
  bif !checkB a b c l || !whoB x then 1 else bif decide (x.f < 0) || decide (x.u ≤ x.f) || decide (1073741824 < x.u) then 3 else bif decide (c < IntKind.i64.wrap (x.u - x.f)) then 44 else
  bif l.any (meetsB x) then 19 else bif decide ((l.length : Int) = b) then 42 else bif decide (loadI a b c l x.by' = a) then 43 else 0
def addL (l : List Held) (x : Held) : List Held := l.take (bsI l x) ++ x :: l.drop (bsI l x)
def addR (a b c : Int) (l : List Held) (x : Held) : AV := bif decide (addE a b c l x = 0) then okQ a b c (addL l x) else errQ (addE a b c l x)
theorem add_calls (a b c : Int) (l : List Held) (p t : ByteArray) (e : Int) (o : ByteArray) (f u : Int) :
    ACalls Try.prog 24 [qAV a b c (rowH l), .ag [.s p, .s t], .i .i64 e, .s o, .i .i64 f, .i .i64 u] [] (addR a b c l ⟨p, t, e, o, f, u, 0, 0⟩) [] :=
  acalls_vc (vAdd_eq a b c l p t e o f u _) (by kernel_rfl) (by kernel_rfl) noK_runs (by
    have err : ∀ n : Int, n ≠ 0 → addE a b c l ⟨p, t, e, o, f, u, 0, 0⟩ = n → errQ n = addR a b c l ⟨p, t, e, o, f, u, 0, 0⟩ := by
      intro n h0 h1
      unfold addR
      rw [h1]
      simp [h0]
    have hi := bsF_le (ltAt l ⟨p, t, e, o, f, u, 0, 0⟩) l.length 0 l.length (Nat.zero_le _)
    have hok : addE a b c l ⟨p, t, e, o, f, u, 0, 0⟩ = 0 → okQ a b c (addL l ⟨p, t, e, o, f, u, 0, 0⟩) = addR a b c l ⟨p, t, e, o, f, u, 0, 0⟩ := by
      intro h1
      unfold addR
      rw [h1]
      simp
    generalize hx : (⟨p, t, e, o, f, u, 0, 0⟩ : Held) = x at *
    have e1 : x.f = f := by rw [← hx]
    have e2 : x.u = u := by rw [← hx]
    have e3 : x.by' = o := by rw [← hx]
    simp only [vAdd, brP_iff]
    refine ⟨checkB a b c l, check_calls a b c l, fun h => ⟨err 1 (by omega) ?_, by trivial⟩, fun h => ?_⟩
    · simp only [addE, h, Bool.true_or, cond_true]
    have hc : checkB a b c l = true := by simpa using h
    have hl := ck_len hc
    refine ⟨whoB x, by subst hx; exact who_calls ⟨p, t, e, o, f, u, 0, 0⟩, fun h2 => ⟨err 1 (by omega) ?_, by trivial⟩, fun h2 => ?_⟩
    · simp only [addE, h2, Bool.or_true, cond_true]
    refine ⟨fun h3 => ⟨err 3 (by omega) ?_, by trivial⟩, fun h3 => ⟨fun h4 => ⟨err 3 (by omega) ?_, by trivial⟩, fun h4 => ⟨fun h5 => ⟨err 3 (by omega) ?_, by trivial⟩, fun h5 => ⟨fun h6 => ⟨err 44 (by omega) ?_, by trivial⟩, fun h6 => ?_⟩⟩⟩⟩
    · simp only [addE, h, h2, e1, e2, h3, Bool.or_self, Bool.true_or, cond_true, cond_false]
    · simp only [addE, h, h2, e1, e2, h3, h4, Bool.or_self, Bool.true_or, Bool.or_true, cond_true, cond_false]
    · simp only [addE, h, h2, e1, e2, h3, h4, h5, Bool.or_self, Bool.true_or, Bool.or_true, cond_true, cond_false]
    · simp only [addE, h, h2, e1, e2, h3, h4, h5, h6, Bool.or_self, Bool.true_or, Bool.or_true, cond_true, cond_false]
    refine ⟨l.any (meetsB x), by subst hx; exact cfA_calls ⟨p, t, e, o, f, u, 0, 0⟩ l (by omega), fun h7 => ⟨err 19 (by omega) ?_, by trivial⟩, fun h7 => ⟨fun h8 => ⟨err 42 (by omega) ?_, by trivial⟩, fun h8 => ?_⟩⟩
    · simp only [addE, h, h2, e1, e2, h3, h4, h5, h6, h7, Bool.or_self, Bool.true_or, Bool.or_true, cond_true, cond_false]
    · rw [rowH_len] at h8
      simp only [addE, h, h2, e1, e2, h3, h4, h5, h6, h7, h8, Bool.or_self, Bool.true_or, Bool.or_true, cond_true, cond_false]
    rw [rowH_len] at h8
    refine ⟨loadI a b c l o, load_calls a b c l o, by trivial, fun h9 => ⟨err 43 (by omega) ?_, by trivial⟩, fun h9 => ?_⟩
    · simp only [addE, h, h2, e1, e2, e3, h3, h4, h5, h6, h7, h8, h9, Bool.or_self, Bool.true_or, Bool.or_true, cond_true, cond_false]
    have h0 : addE a b c l x = 0 := by simp only [addE, h, h2, e1, e2, e3, h3, h4, h5, h6, h7, h8, h9, Bool.or_self, Bool.true_or, Bool.or_true, cond_true, cond_false]
    refine ⟨(bsI l x : Int), eqAt l x (bsI l x), by subst hx; exact bs_calls l ⟨p, t, e, o, f, u, 0, 0⟩ (by omega), clone_calls l (by omega), ?_, by trivial, ?_, by trivial⟩
    · subst hx
      have := insert_calls (xs := rowH l) (y := (⟨p, t, e, o, f, u, 0, 0⟩ : Held).cells) (i := bsI l ⟨p, t, e, o, f, u, 0, 0⟩) (by rw [rowH_len]; exact hi.2) (by rw [rowH_len]; omega) (rowH_all l) (rowH_noU l) rfl (cells_noU _)
      exact this
    · rw [← hok h0]
      subst hx
      simp only [okQ, qAV, addL, rowH, Int.toNat_natCast, List.map_append, List.map_cons, List.map_take, List.map_drop, List.append_assoc, List.singleton_append]
      rfl)

/-! ### Changes of the active entry -/
theorem rowH_set (l : List Held) (j : Nat) (h : Held) : rowH (l.set j h) = (rowH l).set j h.cells := by simp [rowH, List.map_set]
theorem set_self (l : List Held) {j : Nat} (h : j < l.length) : l.set j l[j] = l := List.set_getElem_self h
theorem rel1_calls (l : List Held) (j : Nat) : ACalls Try.prog 41 [.eptr 0 8 j 0] [(0, .row 41 8 (rowH l))] (.tup [.b false, .i .i64 0]) [(0, .row 41 8 (rowH l))] :=
  acalls_vc (vRel1_eq (rowH l) j _ _) (by kernel_rfl) (by kernel_rfl) noK_runs ⟨rfl, rfl⟩
def chgE (h : Held) : Int := bif decide (h.c = 1073741824) then 2 else 0
def chgH (h : Held) : Held := bif decide (h.c = 1073741824) then h else { h with c := IntKind.i64.wrap (h.c + 1) }
theorem chg1_calls (l : List Held) (j : Nat) (h : j < l.length) : ACalls Try.prog 43 [.eptr 0 8 j 0] [(0, .row 41 8 (rowH l))] (.tup [.b true, .i .i64 (chgE l[j])]) [(0, .row 41 8 (rowH (l.set j (chgH l[j]))))] :=
  acalls_vc (vChg1_eq (rowH l) j _ _) (by kernel_rfl) (by kernel_rfl) noK_runs (by
    simp only [vChg1, brP_iff]
    have hg := rowH_get h
    refine ⟨l[j].c, ⟨_, hg, rfl, by trivial⟩, fun h1 => ⟨?_, ?_⟩, fun h1 => ⟨l[j].c, ⟨_, hg, rfl, by trivial⟩, _, hg, Nat.le_refl 8, ?_, ?_⟩⟩
    · simp only [chgE, h1, cond_true]
    · have : chgH l[j] = l[j] := by simp only [chgH, h1, cond_true]
      rw [this, set_self l h]
    · simp only [chgE, h1, cond_false]
    · have : chgH l[j] = { l[j] with c := IntKind.i64.wrap (l[j].c + 1) } := by simp only [chgH, h1, cond_false]
      rw [this, rowH_set]
      rfl)
def renH (h : Held) (u : Int) : Held := { h with u := u, r := 1 }
def renE (c : Int) (l : List Held) (h : Held) (u n : Int) : Int :=
  bif decide (h.r = 1) then 45 else bif decide (u ≤ h.u) || decide (1073741824 < u) then 3 else bif decide (c < IntKind.i64.wrap (u - n)) then 44 else bif l.any (renB h (renH h u)) then 19 else 0
theorem ren1_calls (l l' : List Held) (j : Nat) (h : j < l.length) (u n a b c : Int) (hl : l'.length < 4294967296) : ACalls Try.prog 54 [.eptr 0 8 j 0, .pp [.i .i64 u], .pp [.i .i64 n], .pp [.i .i64 a, .i .i64 b, .i .i64 c, .sl (rowH l')]] [(0, .row 41 8 (rowH l))]
    (.tup [.b true, .i .i64 (renE c l' l[j] u n)]) [(0, .row 41 8 (rowH (bif decide (renE c l' l[j] u n = 0) then l.set j (renH l[j] u) else l)))] :=
  acalls_vc (vRen1_eq (rowH l) j u n a b c l' _ _) (by kernel_rfl) (by kernel_rfl) noK_runs (by
    have hg := rowH_get h
    have err : ∀ k : Int, k ≠ 0 → renE c l' l[j] u n = k → (AV.tup [.b true, .i .i64 k] = .tup [.b true, .i .i64 (renE c l' l[j] u n)]) ∧ ([(0, Blk.row 41 8 (rowH l))] : Heap) = [(0, .row 41 8 (rowH (bif decide (renE c l' l[j] u n = 0) then l.set j (renH l[j] u) else l)))] := by
      intro k h0 h1
      rw [h1]
      simp [h0]
    generalize hx : l[j] = x at *
    simp only [vRen1, brP_iff]
    refine ⟨x.p, x.t, x.e, x.by', x.f, x.u, x.r, x.c, ⟨_, hg, rfl, rfl⟩, fun h1 => err 45 (by omega) ?_, fun h1 => ⟨fun h2 => err 3 (by omega) ?_, fun h2 => ⟨fun h3 => err 3 (by omega) ?_, fun h3 => ⟨fun h4 => err 44 (by omega) ?_, fun h4 => ?_⟩⟩⟩⟩
    · simp only [renE, h1, cond_true]
    · simp only [renE, h1, h2, Bool.true_or, cond_true, cond_false]
    · simp only [renE, h1, h2, h3, Bool.or_true, cond_true, cond_false]
    · simp only [renE, h1, h2, h3, h4, Bool.or_false, cond_true, cond_false]
    refine ⟨l'.any (renB x (renH x u)), cfR_calls x (renH x u) l' hl, fun h5 => err 19 (by omega) ?_, fun h5 => ⟨_, hg, Nat.le_refl 8, ?_, ?_⟩⟩
    · simp only [renE, h1, h2, h3, h4, h5, Bool.or_false, cond_true, cond_false]
    · simp only [renE, h1, h2, h3, h4, h5, Bool.or_false, cond_true, cond_false]
    · have : renE c l' x u n = 0 := by simp only [renE, h1, h2, h3, h4, h5, Bool.or_false, cond_true, cond_false]
      rw [this]
      simp only [decide_true, cond_true, rowH_set]
      rfl)
/-- What a change gives: e says which error there is at an entry; g is the entry's new state; or it goes. -/
def chR (a b c : Int) (l : List Held) (m : Mom) (e : Held → Int) (g : Held → Held) (keep : Bool) : AV :=
  bif checkB a b c l then (match l.find? (heldB m) with
    | none => errQ 18
    | some h => bif decide (e h = 0) then okQ a b c (bif keep then l.set (l.findIdx (heldB m)) (g h) else l.take (l.findIdx (heldB m)) ++ l.drop (l.findIdx (heldB m) + 1)) else errQ (e h)) else errQ 1
theorem changeR_calls (u n a' b' c' : Int) (l' : List Held) (hl' : l'.length < 4294967296) (a b c : Int) (l : List Held) (m : Mom) : ACalls Try.prog 40 [qAV a b c (rowH l), .ag m.cells, (.fn 54 [] [.pp [.i .i64 u], .pp [.i .i64 n], .pp [.i .i64 a', .i .i64 b', .i .i64 c', .sl (rowH l')]])] [] (chR a b c l m (fun h => renE c' l' h u n) (fun h => renH h u) true) [] :=
  acalls_vc (vChangeR_eq u n a' b' c' l' a b c l m _) (by kernel_rfl) (by kernel_rfl) noK_runs (by
    simp only [vChangeR, brP_iff]
    refine ⟨checkB a b c l, check_calls a b c l, fun h => ⟨?_, by trivial⟩, fun h => ?_⟩
    · have : checkB a b c l = false := by simpa using h
      simp only [chR, this, cond_false]
      rfl
    have hc : checkB a b c l = true := by simpa using h
    have hl := ck_len hc
    refine ⟨_, find_calls a b c l m (by omega), fun h2 => ⟨?_, by trivial⟩, fun h2 => ?_⟩
    · rcases idxP_find (heldB m) l 0 (Int.le_refl 0) with ⟨h3, h4⟩ | ⟨x, i, h3, h4, h5⟩
      · simp only [chR, hc, h3, cond_true]
        rfl
      · rw [h4] at h2; simp at h2; omega
    rcases idxP_find (heldB m) l 0 (Int.le_refl 0) with ⟨h3, h4⟩ | ⟨x, i, h3, h4, h5, h6⟩
    · rw [h4] at h2; simp at h2
    obtain ⟨hi, hx⟩ := List.getElem?_eq_some_iff.1 h5
    have h4' : idxP (heldB m) 0 l = (i : Int) := by omega
    rw [h4']
    have hw : IntKind.i64.wrap ((i : Int) + 1) = ((i + 1 : Nat) : Int) := by rw [wrap_id (by omega) (by omega)]; simp
    simp only [Int.toNat_natCast, hw]
    refine ⟨clone_calls l (by omega), by omega, by rw [rowH_len]; omega, true, _, rowH (bif decide (renE c' l' l[i] u n = 0) then l.set i (renH l[i] u) else l), ren1_calls l l' i hi u n a' b' c' hl', fun h7 => ⟨?_, by trivial⟩, fun h7 => ?_⟩
    · simp only [chR, hc, h3, cond_true, ← hx]
      simp only [Bool.not_eq_true', decide_eq_false_iff_not] at h7
      first
      | exact absurd trivial h7
      | simp [h7, errQ, qAV, rowH]
    · have hr : chR a b c l m (fun h => renE c' l' h u n) (fun h => renH h u) true = okQ a b c (bif true then l.set i (((fun h => renH h u)) l[i]) else l.take i ++ l.drop (i + 1)) := by
        simp only [chR, hc, h3, cond_true, ← hx, ← h6]
        simp only [Bool.not_eq_false', decide_eq_true_eq] at h7
        simp [h7]
      rw [hr]
      refine ⟨fun h8 => ?_, fun h8 => ?_⟩
      · first
        | (exfalso; simp at h8; done)
        | exact ⟨delete_calls (xs := rowH l) (i := i) (j := i + 1) (by omega) (by rw [rowH_len]; omega) (by rw [rowH_len]; omega) (rowH_all l) (rowH_noU l), by simp [okQ, qAV, rowH], by trivial⟩
      · first
        | (exfalso; simp at h8; done)
        | (simp only [Bool.not_eq_false', decide_eq_true_eq] at h7
           refine ⟨?_, by trivial⟩
           simp [okQ, qAV, h7]))
theorem changeL_calls  (a b c : Int) (l : List Held) (m : Mom) : ACalls Try.prog 40 [qAV a b c (rowH l), .ag m.cells, (.fn 41 [] [])] [] (chR a b c l m (fun _ => 0) (fun h => h) false) [] :=
  acalls_vc (vChangeL_eq  a b c l m _) (by kernel_rfl) (by kernel_rfl) noK_runs (by
    simp only [vChangeL, brP_iff]
    refine ⟨checkB a b c l, check_calls a b c l, fun h => ⟨?_, by trivial⟩, fun h => ?_⟩
    · have : checkB a b c l = false := by simpa using h
      simp only [chR, this, cond_false]
      rfl
    have hc : checkB a b c l = true := by simpa using h
    have hl := ck_len hc
    refine ⟨_, find_calls a b c l m (by omega), fun h2 => ⟨?_, by trivial⟩, fun h2 => ?_⟩
    · rcases idxP_find (heldB m) l 0 (Int.le_refl 0) with ⟨h3, h4⟩ | ⟨x, i, h3, h4, h5⟩
      · simp only [chR, hc, h3, cond_true]
        rfl
      · rw [h4] at h2; simp at h2; omega
    rcases idxP_find (heldB m) l 0 (Int.le_refl 0) with ⟨h3, h4⟩ | ⟨x, i, h3, h4, h5, h6⟩
    · rw [h4] at h2; simp at h2
    obtain ⟨hi, hx⟩ := List.getElem?_eq_some_iff.1 h5
    have h4' : idxP (heldB m) 0 l = (i : Int) := by omega
    rw [h4']
    have hw : IntKind.i64.wrap ((i : Int) + 1) = ((i + 1 : Nat) : Int) := by rw [wrap_id (by omega) (by omega)]; simp
    simp only [Int.toNat_natCast, hw]
    refine ⟨clone_calls l (by omega), by omega, by rw [rowH_len]; omega, false, _, rowH l, rel1_calls l i, fun h7 => ⟨?_, by trivial⟩, fun h7 => ?_⟩
    · simp only [chR, hc, h3, cond_true, ← hx]
      simp only [Bool.not_eq_true', decide_eq_false_iff_not] at h7
      first
      | exact absurd trivial h7
      | simp [h7, errQ, qAV, rowH]
    · have hr : chR a b c l m (fun _ => 0) (fun h => h) false = okQ a b c (bif false then l.set i (((fun h => h)) l[i]) else l.take i ++ l.drop (i + 1)) := by
        simp only [chR, hc, h3, cond_true, ← hx, ← h6]
        simp only [Bool.not_eq_false', decide_eq_true_eq] at h7
        simp [h7]
      rw [hr]
      refine ⟨fun h8 => ?_, fun h8 => ?_⟩
      · first
        | (exfalso; simp at h8; done)
        | exact ⟨delete_calls (xs := rowH l) (i := i) (j := i + 1) (by omega) (by rw [rowH_len]; omega) (by rw [rowH_len]; omega) (rowH_all l) (rowH_noU l), by simp [okQ, qAV, rowH], by trivial⟩
      · first
        | (exfalso; simp at h8; done)
        | (simp only [Bool.not_eq_false', decide_eq_true_eq] at h7
           refine ⟨?_, by trivial⟩
           simp [okQ, qAV, h7]))
theorem changeC_calls  (a b c : Int) (l : List Held) (m : Mom) : ACalls Try.prog 40 [qAV a b c (rowH l), .ag m.cells, (.fn 43 [] [])] [] (chR a b c l m chgE chgH true) [] :=
  acalls_vc (vChangeC_eq  a b c l m _) (by kernel_rfl) (by kernel_rfl) noK_runs (by
    simp only [vChangeC, brP_iff]
    refine ⟨checkB a b c l, check_calls a b c l, fun h => ⟨?_, by trivial⟩, fun h => ?_⟩
    · have : checkB a b c l = false := by simpa using h
      simp only [chR, this, cond_false]
      rfl
    have hc : checkB a b c l = true := by simpa using h
    have hl := ck_len hc
    refine ⟨_, find_calls a b c l m (by omega), fun h2 => ⟨?_, by trivial⟩, fun h2 => ?_⟩
    · rcases idxP_find (heldB m) l 0 (Int.le_refl 0) with ⟨h3, h4⟩ | ⟨x, i, h3, h4, h5⟩
      · simp only [chR, hc, h3, cond_true]
        rfl
      · rw [h4] at h2; simp at h2; omega
    rcases idxP_find (heldB m) l 0 (Int.le_refl 0) with ⟨h3, h4⟩ | ⟨x, i, h3, h4, h5, h6⟩
    · rw [h4] at h2; simp at h2
    obtain ⟨hi, hx⟩ := List.getElem?_eq_some_iff.1 h5
    have h4' : idxP (heldB m) 0 l = (i : Int) := by omega
    rw [h4']
    have hw : IntKind.i64.wrap ((i : Int) + 1) = ((i + 1 : Nat) : Int) := by rw [wrap_id (by omega) (by omega)]; simp
    simp only [Int.toNat_natCast, hw]
    refine ⟨clone_calls l (by omega), by omega, by rw [rowH_len]; omega, true, _, rowH (l.set i (chgH l[i])), chg1_calls l i hi, fun h7 => ⟨?_, by trivial⟩, fun h7 => ?_⟩
    · simp only [chR, hc, h3, cond_true, ← hx]
      simp only [Bool.not_eq_true', decide_eq_false_iff_not] at h7
      first
      | exact absurd trivial h7
      | simp [h7, errQ, qAV, rowH]
    · have hr : chR a b c l m chgE chgH true = okQ a b c (bif true then l.set i ((chgH) l[i]) else l.take i ++ l.drop (i + 1)) := by
        simp only [chR, hc, h3, cond_true, ← hx, ← h6]
        simp only [Bool.not_eq_false', decide_eq_true_eq] at h7
        simp [h7]
      rw [hr]
      refine ⟨fun h8 => ?_, fun h8 => ?_⟩
      · first
        | (exfalso; simp at h8; done)
        | exact ⟨delete_calls (xs := rowH l) (i := i) (j := i + 1) (by omega) (by rw [rowH_len]; omega) (by rw [rowH_len]; omega) (rowH_all l) (rowH_noU l), by simp [okQ, qAV, rowH], by trivial⟩
      · first
        | (exfalso; simp at h8; done)
        | (simp only [Bool.not_eq_false', decide_eq_true_eq] at h7
           refine ⟨?_, by trivial⟩
           simp [okQ, qAV, h7]))
def renewR (a b c : Int) (l : List Held) (m : Mom) (u : Int) : AV := chR a b c l m (fun h => renE c l h u m.now) (fun h => renH h u) true
def releaseR (a b c : Int) (l : List Held) (m : Mom) : AV := chR a b c l m (fun _ => 0) (fun h => h) false
def chargeR (a b c : Int) (l : List Held) (m : Mom) : AV := chR a b c l m chgE chgH true
theorem chR_form (a b c : Int) (l : List Held) (m : Mom) (e : Held → Int) (g : Held → Held) (k : Bool) : ∃ n n1 n2 xs n3, chR a b c l m e g k = .tup [.ag [.i .i64 n, .i .i64 n1, .i .i64 n2, .sl xs], .i .i64 n3] := by
  unfold chR
  cases checkB a b c l with
  | false => exact ⟨_, _, _, _, _, rfl⟩
  | true =>
    cases l.find? (heldB m) with
    | none => exact ⟨_, _, _, _, _, rfl⟩
    | some h =>
      simp only [cond_true]
      cases decide (e h = 0) with
      | true => exact ⟨_, _, _, _, _, rfl⟩
      | false => exact ⟨_, _, _, _, _, rfl⟩
theorem chR_bad {a b c : Int} {l : List Held} (h : checkB a b c l = false) (m : Mom) (e : Held → Int) (g : Held → Held) (k : Bool) : chR a b c l m e g k = errQ 1 := by
  unfold chR
  rw [h]
  rfl
theorem renew_calls (a b c : Int) (l : List Held) (m : Mom) (u : Int) (hl : l.length < 4294967296) : ACalls Try.prog 31 [qAV a b c (rowH l), .ag [.s m.p, .s m.t], .i .i64 m.e, .i .i64 m.now, .i .i64 u] [] (renewR a b c l m u) [] :=
  acalls_vc (vRenew_eq a b c l m u _) (by kernel_rfl) (by kernel_rfl) noK_runs (by
    obtain ⟨n, n1, n2, xs, n3, h⟩ := chR_form a b c l m (fun h => renE c l h u m.now) (fun h => renH h u) true
    have hc := changeR_calls u m.now a b c l hl a b c l m
    rw [h] at hc
    exact ⟨n, n1, n2, xs, n3, hc, h.symm, rfl⟩)
theorem release_calls (a b c : Int) (l : List Held) (m : Mom) : ACalls Try.prog 19 [qAV a b c (rowH l), .ag [.s m.p, .s m.t], .i .i64 m.e, .i .i64 m.now] [] (releaseR a b c l m) [] :=
  acalls_vc (vRelease_eq a b c l m _) (by kernel_rfl) (by kernel_rfl) noK_runs (by
    obtain ⟨n, n1, n2, xs, n3, h⟩ := chR_form a b c l m (fun _ => 0) (fun h => h) false
    have hc := changeL_calls a b c l m
    rw [h] at hc
    exact ⟨n, n1, n2, xs, n3, hc, h.symm, rfl⟩)
theorem charge_calls (a b c : Int) (l : List Held) (m : Mom) : ACalls Try.prog 23 [qAV a b c (rowH l), .ag [.s m.p, .s m.t], .i .i64 m.e, .i .i64 m.now] [] (chargeR a b c l m) [] :=
  acalls_vc (vCharge_eq a b c l m _) (by kernel_rfl) (by kernel_rfl) noK_runs (by
    obtain ⟨n, n1, n2, xs, n3, h⟩ := chR_form a b c l m chgE chgH true
    have hc := changeC_calls a b c l m
    rw [h] at hc
    exact ⟨n, n1, n2, xs, n3, hc, h.symm, rfl⟩)
/-! ### Expire -/
theorem rowH_snoc (l : List Held) (h : Held) : rowH l ++ [h.cells] = rowH (l ++ [h]) := by simp [rowH]
def expR (a b c : Int) (l : List Held) (now : Int) : AV :=
  bif checkB a b c l then .tup [qAV a b c (rowH (l.filter fun h => !decide (h.u ≤ now))), .sl (rowH (l.filter fun h => decide (h.u ≤ now))), .i .i64 0] else .tup [qAV 0 0 0 [], .sl [], .i .i64 1]
theorem ex_loop (a b c now : Int) (l : List Held) (hl : l.length ≤ 32) : ∀ (k j : Nat), l.length - j = k → j ≤ l.length →
    Runs Try.prog 18 0 (hd Try.f18 5) (sEx a b c now l ((l.take j).filter fun h => !decide (h.u ≤ now)) ((l.take j).filter fun h => decide (h.u ≤ now)) j)
      (RetR 0 [] (.tup [qAV a b c (rowH (l.filter fun h => !decide (h.u ≤ now))), .sl (rowH (l.filter fun h => decide (h.u ≤ now))), .i .i64 0]) []) := by
  intro k
  induction k with
  | zero =>
    intro j hk hj
    have hj' : j = l.length := by omega
    subst hj'
    rw [List.take_length]
    refine runs_vc (vExL_eq a b c now l _ _ _ (fun _ _ => False) _) (by kernel_rfl) (fun todo s h => Runs.cutA h (fun _ _ h => h.elim)) ?_
    simp only [vExL, brP_iff, rowH_len]
    exact ⟨fun h => by simp at h, fun _ => ⟨rfl, by trivial⟩⟩
  | succ k ih =>
    intro j hk hj
    have hlt : j < l.length := by omega
    have htk : l.take (j+1) = l.take j ++ [l[j]] := List.take_succ_eq_append_getElem hlt
    have f1 := List.length_filter_le (fun h : Held => !decide (h.u ≤ now)) (l.take j)
    have f2 := List.length_filter_le (fun h : Held => decide (h.u ≤ now)) (l.take j)
    have hcl : (l.take j).length ≤ 32 := by simp; omega
    refine runs_vc (vExL_eq a b c now l _ _ j (fun id s => id = 5 ∧ s = sEx a b c now l ((l.take (j+1)).filter fun h => !decide (h.u ≤ now)) ((l.take (j+1)).filter fun h => decide (h.u ≤ now)) (j+1)) _) (by kernel_rfl) (fun todo s h => Runs.cutA h ?_) ?_
    · rintro id s' ⟨rfl, rfl⟩
      exact ih (j+1) (by omega) (by omega)
    · have hw : IntKind.i64.wrap ((j : Int) + 1) = ((j + 1 : Nat) : Int) := by rw [wrap_id (by omega) (by omega)]; simp
      simp only [vExL, brP_iff, hw]
      refine ⟨fun _ => ⟨by omega, by rw [rowH_len]; omega, exH hlt rfl ⟨fun h => ⟨by rw [rowH_len]; omega, by rw [rowH_len]; omega, ?_, by trivial, by trivial, ?_⟩, fun h => ⟨by rw [rowH_len]; omega, by rw [rowH_len]; omega, ?_, by trivial, by trivial, ?_⟩⟩⟩, fun h => absurd h (by simp [rowH_len]; omega)⟩
      · intro y hy
        cases hy with
        | head => rfl
        | tail _ h => cases h
      · rw [htk]
        simp only [List.filter_append, List.filter_cons, List.filter_nil, h, Bool.not_true, if_true, Bool.false_eq_true, if_false, List.append_nil]
        unfold sEx
        rw [← rowH_snoc]
        rfl
      · intro y hy
        cases hy with
        | head => rfl
        | tail _ h => cases h
      · rw [htk]
        simp only [List.filter_append, List.filter_cons, List.filter_nil, h, Bool.not_false, if_true, Bool.false_eq_true, if_false, List.append_nil]
        unfold sEx
        rw [← rowH_snoc]
        rfl
theorem expire_calls (a b c : Int) (l : List Held) (now : Int) : ACalls Try.prog 18 [qAV a b c (rowH l), .i .i64 now] [] (expR a b c l now) [] :=
  acalls_vc (vEx_eq a b c now l (fun id s => id = 5 ∧ s = sEx a b c now l [] [] 0 ∧ checkB a b c l = true) _) (by kernel_rfl) (by kernel_rfl) (fun todo s h => Runs.cutA h (fun id s' e => by
    obtain ⟨rfl, rfl, e⟩ := e
    have := ex_loop a b c now l (ck_len e) _ 0 rfl (Nat.zero_le _)
    rw [show expR a b c l now = .tup [qAV a b c (rowH (l.filter fun h => !decide (h.u ≤ now))), .sl (rowH (l.filter fun h => decide (h.u ≤ now))), .i .i64 0] by unfold expR; rw [e]; rfl]
    exact this)) (by
    simp only [vEx, brP_iff]
    refine ⟨checkB a b c l, check_calls a b c l, fun h => ⟨?_, by trivial⟩, fun h => ⟨by trivial, by trivial, rfl, by simpa using h⟩⟩
    have : checkB a b c l = false := by simpa using h
    simp [expR, this, qAV])
end Go.AM.Q
