/- Quarantine: Check. -/
import Derived.Test.YthcpekjcnokonaaQB
set_option maxRecDepth 100000
set_option linter.unusedVariables false
set_option linter.unusedSimpArgs false
namespace Go.AM.Q
open Go.Proofs
theorem rowH_get {l : List Held} {j : Nat} (h : j < l.length) : (rowH l)[j]? = some (l[j]).cells := by simp [rowH, h]
theorem rowH_len (l : List Held) : (rowH l).length = l.length := by simp [rowH]
theorem rowH_all (l : List Held) : ∀ x ∈ rowH l, x.length = 8 := by
  intro x hx
  obtain ⟨h, _, rfl⟩ := List.mem_map.1 hx
  rfl
theorem mapSI_ok (k : ByteArray) (pm : List (ByteArray × Int)) : ∀ p, List.Mem p (mapSI pm) → keyOk (.s k) p.1 = true := by
  intro p hp
  obtain ⟨q, _, rfl⟩ := List.mem_map.1 (show p ∈ mapSI pm from hp)
  rfl
def pfind (k : ByteArray) : List (ByteArray × Int) → Nat → Option (Nat × Int)
  | [], _ => none
  | (a, v) :: r, i => bif strEq k a then some (i, v) else pfind k r (i + 1)
def pget (k : ByteArray) (pm : List (ByteArray × Int)) : Int := ((pfind k pm 0).map (·.2)).getD 0
def pset (k : ByteArray) (v : Int) (pm : List (ByteArray × Int)) : List (ByteArray × Int) :=
  match pfind k pm 0 with
  | some (j, _) => pm.set j (k, v)
  | none => pm ++ [(k, v)]
theorem mfind_map (k : ByteArray) : ∀ (pm : List (ByteArray × Int)) (i : Nat), mfind (.s k) (mapSI pm) i = (pfind k pm i).map fun p => (p.1, .i .i64 p.2)
  | [], i => rfl
  | (a, v) :: r, i => by
    show (bif strEq k a then some (i, AV.i .i64 v) else mfind (.s k) (mapSI r) (i + 1)) = Option.map _ (bif strEq k a then some (i, v) else pfind k r (i + 1))
    rw [mfind_map k r (i + 1)]
    cases strEq k a <;> rfl
theorem mget_map (k : ByteArray) (pm : List (ByteArray × Int)) : (mget (.s k) (mapSI pm)).getD (.i .i64 0) = .i .i64 (pget k pm) := by
  unfold mget pget
  rw [mfind_map]
  cases pfind k pm 0 <;> rfl
theorem mset_map (k : ByteArray) (v : Int) (pm : List (ByteArray × Int)) : mset (.s k) (.i .i64 v) (mapSI pm) = mapSI (pset k v pm) := by
  unfold mset pset
  rw [mfind_map]
  cases pfind k pm 0 with
  | none => simp [mapSI]
  | some p => simp [mapSI, List.map_set]
theorem strEq_iff {x y : ByteArray} : strEq x y = true ↔ x = y := by simp [strEq]
theorem strEq_ne {x y : ByteArray} : strEq x y = false ↔ x ≠ y := by simp [strEq]
theorem pfind_spec (k : ByteArray) : ∀ (pm : List (ByteArray × Int)) (i j : Nat) (v : Int), pfind k pm i = some (j, v) → i ≤ j ∧ pm[j - i]? = some (k, v) ∧ ∀ q, q < j - i → ∀ p, pm[q]? = some p → p.1 ≠ k
  | [], i, j, v, h => by simp [pfind] at h
  | (a, u) :: r, i, j, v, h => by
    unfold pfind at h
    cases hs : strEq k a with
    | true =>
      rw [hs] at h
      simp only [cond_true, Option.some.injEq, Prod.mk.injEq] at h
      obtain ⟨rfl, rfl⟩ := h
      rw [strEq_iff] at hs
      subst hs
      refine ⟨Nat.le_refl _, by simp, fun q hq => by omega⟩
    | false =>
      rw [hs] at h
      rw [strEq_ne] at hs
      obtain ⟨h1, h2, h3⟩ := pfind_spec k r (i + 1) j v h
      have e : j - i = (j - (i + 1)) + 1 := by omega
      refine ⟨by omega, by rw [e]; simpa using h2, fun q hq p hp => ?_⟩
      cases q with
      | zero => simp at hp; subst hp; exact fun h => hs h.symm
      | succ q => exact h3 q (by omega) p (by simpa using hp)
theorem pfind_none (k : ByteArray) : ∀ (pm : List (ByteArray × Int)) (i : Nat), pfind k pm i = none ↔ ∀ p ∈ pm, p.1 ≠ k
  | [], i => by simp [pfind]
  | (a, u) :: r, i => by
    unfold pfind
    cases hs : strEq k a with
    | true => rw [strEq_iff] at hs; subst hs; simp
    | false =>
      rw [strEq_ne] at hs
      rw [cond_false, pfind_none k r (i + 1)]
      simp only [List.mem_cons, forall_eq_or_imp]
      exact ⟨fun h => ⟨fun e => hs e.symm, h⟩, fun h => h.2⟩
theorem pfind_at (k : ByteArray) : ∀ (pm : List (ByteArray × Int)) (i j : Nat) (v : Int), pm[j]? = some (k, v) → (∀ q, q < j → ∀ p, pm[q]? = some p → p.1 ≠ k) → pfind k pm i = some (i + j, v)
  | [], i, j, v, h, _ => by simp at h
  | (a, u) :: r, i, 0, v, h, _ => by
    simp at h
    obtain ⟨rfl, rfl⟩ := h
    simp [pfind, strEq_self]
  | (a, u) :: r, i, j + 1, v, h, hq => by
    have ha : a ≠ k := hq 0 (by omega) (a, u) rfl
    have hs : strEq k a = false := strEq_ne.2 (fun e => ha e.symm)
    unfold pfind
    rw [hs, cond_false, pfind_at k r (i + 1) j v (by simpa using h) (fun q h1 p h2 => hq (q + 1) (by omega) p (by simpa using h2))]
    congr 2
    omega
theorem pget_pset (k o : ByteArray) (v : Int) (pm : List (ByteArray × Int)) : pget o (pset k v pm) = if o = k then v else pget o pm := by
  unfold pset
  cases hf : pfind k pm 0 with
  | none =>
    rw [pfind_none] at hf
    by_cases ho : o = k
    · subst ho
      have : pfind o (pm ++ [(o, v)]) 0 = some (0 + pm.length, v) := pfind_at o _ 0 pm.length v (by simp) (fun q hq p hp => hf p (by rw [List.getElem?_append_left hq] at hp; exact List.mem_of_getElem? hp))
      simp [pget, this]
    · rw [if_neg ho]
      unfold pget
      congr 2
      cases hp : pfind o pm 0 with
      | none =>
        rw [pfind_none] at hp ⊢
        intro p hm
        rcases List.mem_append.1 hm with h | h
        · exact hp p h
        · simp at h; subst h; exact fun e => ho e.symm
      | some q =>
        obtain ⟨j, u⟩ := q
        obtain ⟨_, h2, h3⟩ := pfind_spec o pm 0 j u hp
        have hj := (List.getElem?_eq_some_iff.1 h2).1
        rw [Nat.sub_zero] at h2 h3 hj
        have := pfind_at o (pm ++ [(k, v)]) 0 j u (by rw [List.getElem?_append_left hj]; exact h2) (fun q hq p hp => h3 q hq p (by rwa [List.getElem?_append_left (by omega)] at hp))
        simpa using this
  | some q =>
    obtain ⟨j, u⟩ := q
    obtain ⟨_, h2, h3⟩ := pfind_spec k pm 0 j u hf
    rw [Nat.sub_zero] at h2 h3
    have hj := (List.getElem?_eq_some_iff.1 h2).1
    by_cases ho : o = k
    · subst ho
      have : pfind o (pm.set j (o, v)) 0 = some (0 + j, v) := pfind_at o _ 0 j v (by simp [hj]) (fun q hq p hp => h3 q hq p (by rwa [List.getElem?_set_ne (by omega)] at hp))
      simp [pget, this]
    · rw [if_neg ho]
      unfold pget
      congr 2
      cases hp : pfind o pm 0 with
      | none =>
        rw [pfind_none] at hp ⊢
        intro p hm
        rcases List.mem_or_eq_of_mem_set hm with h | h
        · exact hp p h
        · subst h; exact fun e => ho e.symm
      | some q =>
        obtain ⟨i, u'⟩ := q
        obtain ⟨_, g2, g3⟩ := pfind_spec o pm 0 i u' hp
        rw [Nat.sub_zero] at g2 g3
        have hij : j ≠ i := by
          rintro rfl
          rw [h2] at g2
          simp at g2
          exact ho g2.1.symm
        have := pfind_at o (pm.set j (k, v)) 0 i u' (by rw [List.getElem?_set_ne hij]; exact g2) (fun q hq p hp => by
          by_cases hqj : j = q
          · subst hqj
            rw [List.getElem?_set_self (by omega)] at hp
            simp at hp
            subst hp
            exact fun e => ho e.symm
          · rw [List.getElem?_set_ne hqj] at hp
            exact g3 q hq p hp)
        simpa using this

/-- How many entries an owner has. -/
def cntO (o : ByteArray) (l : List Held) : Nat := (l.filter fun h => strEq h.by' o).length
theorem cntO_le (o : ByteArray) (l : List Held) : cntO o l ≤ l.length := List.length_filter_le _ _
theorem cntO_snoc (o : ByteArray) (l : List Held) (h : Held) : cntO o (l ++ [h]) = cntO o l + if h.by' = o then 1 else 0 := by
  unfold cntO
  rw [List.filter_append, List.length_append]
  by_cases e : h.by' = o
  · simp [e, strEq_self]
  · simp [e, strEq_ne.2 e]
/-- The entries from one on are right behind those that were seen. -/
def ckFrom (a c : Int) (seen : List Held) : List Held → Bool
  | [] => true
  | x :: r => entryB c x && decide ((cntO x.by' (seen ++ [x]) : Int) ≤ a) && (match seen.getLast? with | none => true | some p => decide (compareI p x < 0) && !meetsB p x) && ckFrom a c (seen ++ [x]) r
def checkB (a b c : Int) (l : List Held) : Bool := sizesB a b c && decide ((l.length : Int) ≤ b) && ckFrom a c [] l

theorem ck_loop (a b c : Int) (l : List Held) (hl : l.length ≤ 32) : ∀ (k j : Nat) (pm : List (ByteArray × Int)), l.length - j = k → j ≤ l.length → (∀ o, pget o pm = cntO o (l.take j)) →
    Runs Try.prog 13 0 (hd Try.f13 5) (iCk a b c l j pm) (RetR 0 [] (.b (ckFrom a c (l.take j) (l.drop j))) []) := by
  intro k
  induction k with
  | zero =>
    intro j pm hk hj hp
    have hj' : j = l.length := by omega
    subst hj'
    refine runs_vc (vCkL_eq a b c l _ pm (fun _ => False) _) (by kernel_rfl) (fun todo s h => Runs.head h (fun _ h => h.elim)) ?_
    simp [vCkL, brP_iff, rowH_len, ckFrom]
  | succ k ih =>
    intro j pm hk hj hp
    have hlt : j < l.length := by omega
    have hd : l.drop j = l[j] :: l.drop (j+1) := List.drop_eq_getElem_cons hlt
    have htk : l.take j ++ [l[j]] = l.take (j+1) := (List.take_succ_eq_append_getElem hlt).symm
    have hcnt := cntO_le l[j].by' (l.take j)
    have hcl : (l.take j).length ≤ 32 := by simp; omega
    have hw : IntKind.i64.wrap (pget l[j].by' pm + 1) = (cntO l[j].by' (l.take (j+1)) : Int) := by
      rw [hp, wrap_id (by omega) (by omega), ← htk, cntO_snoc, if_pos rfl]
      simp
    refine runs_vc (vCkL_eq a b c l j pm (fun s => s = iCk a b c l (j+1) (pset l[j].by' (cntO l[j].by' (l.take (j+1))) pm) ∧ ckFrom a c (l.take j) (l.drop j) = ckFrom a c (l.take (j+1)) (l.drop (j+1))) _) (by kernel_rfl) (fun todo s h => Runs.head h ?_) ?_
    · rintro s' ⟨rfl, h0⟩
      rw [h0]
      refine ih (j+1) _ (by omega) (by omega) (fun o => ?_)
      rw [pget_pset]
      by_cases ho : o = l[j].by'
      · rw [if_pos ho, ho]
      · rw [if_neg ho, hp, ← htk, cntO_snoc, if_neg (fun e => ho e.symm)]
        simp
    · have hge := rowH_get hlt
      have hprev : 0 < j → (rowH l)[(IntKind.i64.wrap ((j : Int) - 1)).toNat]? = some (l[j-1]).cells ∧ (l.take j).getLast? = some l[j-1] ∧ 0 ≤ IntKind.i64.wrap ((j : Int) - 1) ∧ IntKind.i64.wrap ((j : Int) - 1) < ((rowH l).length : Int) := by
        intro h0
        rw [wrap_id (by omega) (by omega)]
        have e : ((j : Int) - 1).toNat = j - 1 := by omega
        rw [e, rowH_len]
        refine ⟨rowH_get (by omega), ?_, by omega, by omega⟩
        obtain ⟨q, rfl⟩ : ∃ q, j = q + 1 := ⟨j - 1, by omega⟩
        rw [List.take_succ_eq_append_getElem (by omega)]
        exact List.getLast?_concat
      have hnone : ¬ 0 < j → (l.take j).getLast? = none := by
        intro h0
        have : j = 0 := by omega
        subst this
        simp
      have hfold : ckFrom a c (l.take j) (l.drop j) = (entryB c l[j] && decide ((cntO l[j].by' (l.take (j+1)) : Int) ≤ a) && (match (l.take j).getLast? with | none => true | some p => decide (compareI p l[j] < 0) && !meetsB p l[j]) && ckFrom a c (l.take (j+1)) (l.drop (j+1))) := by
        rw [hd, ckFrom, htk]
      have hend : IntKind.i64.wrap ((j : Int) + 1) = ((j + 1 : Nat) : Int) := by rw [wrap_id (by omega) (by omega)]; simp
      have hmid : ∀ o, mget (.s o) (mapSI pm) = mget (.s o) (mapSI pm) := fun _ => rfl
      generalize hx : l[j] = x at *
      simp only [vCkL, brP_iff, hw, hend, mset_map, mget_map]
      refine ⟨fun _ => ⟨by omega, by rw [rowH_len]; omega, x.p, x.t, x.e, x.by', x.f, x.u, x.r, x.c, hge, rfl, mapSI_ok _ _, pget x.by' pm, rfl, mapSI_ok _ _, entryB c x, entry_calls a b c _ x, ?_⟩, fun h => by simp [rowH_len] at h; omega⟩
      rw [hfold]
      refine ⟨fun h => ⟨by trivial, ?_, by trivial⟩, fun h => ⟨mapSI_ok _ _, (cntO x.by' (l.take (j+1)) : Int), ?_, fun h2 => ⟨by trivial, ?_, by trivial⟩, fun h2 => ⟨fun h3 => ?_, fun h3 => ⟨by trivial, by trivial, by simp only [iCk, hw, mset_map, hend], ?_⟩⟩⟩⟩
      · have : entryB c x = false := by simpa using h
        rw [this]
        rfl
      · rw [pget_pset, if_pos rfl, hw]
      · have : decide ((cntO x.by' (l.take (j+1)) : Int) ≤ a) = false := by simp at h2 ⊢; omega
        rw [this]
        simp
      · have h3' : 0 < j := by simpa using h3
        obtain ⟨g1, g2, g3, g4⟩ := hprev h3'
        have hcb : compareI l[j-1] x = compareI l[j-1] x := rfl
        have e1 : entryB c x = true := by simpa using h
        have e2 : decide ((cntO x.by' (l.take (j+1)) : Int) ≤ a) = true := by simp at h2 ⊢; omega
        refine ⟨g3, g4, _, _, _, _, _, _, _, _, g1, rfl, compareI l[j-1] x, compare_calls _ _, fun h4 => ⟨by trivial, ?_, by trivial⟩, fun h4 => ⟨g3, g4, _, _, _, _, _, _, _, _, g1, rfl, meetsB l[j-1] x, meets_calls _ _, by trivial, fun h5 => ⟨?_, by trivial⟩, fun h5 => ⟨by trivial, by simp only [iCk, hw, mset_map, hend], ?_⟩⟩⟩
        · have e3 : decide (compareI l[j-1] x < 0) = false := by simp at h4 ⊢; omega
          rw [g2]
          simp [e3]
        · rw [g2]
          simp [h5]
        · have e3 : decide (compareI l[j-1] x < 0) = true := by simp at h4 ⊢; omega
          rw [g2]
          simp [e1, e2, e3, h5]
      · have h3' : ¬ 0 < j := by simpa using h3
        have e1 : entryB c x = true := by simpa using h
        have e2 : decide ((cntO x.by' (l.take (j+1)) : Int) ≤ a) = true := by simp at h2 ⊢; omega
        rw [hnone h3']
        simp [e1, e2]

theorem check_calls (a b c : Int) (l : List Held) : ACalls Try.prog 13 [qAV a b c (rowH l)] [] (.b (checkB a b c l)) [] :=
  acalls_vc (vCk_eq a b c l (fun s => s = iCk a b c l 0 [] ∧ checkB a b c l = ckFrom a c [] l ∧ l.length ≤ 32) (.b (checkB a b c l))) (by kernel_rfl) (by kernel_rfl) (fun todo s h => Runs.head h (fun s' e => by
    obtain ⟨rfl, e1, e2⟩ := e
    rw [e1]
    exact ck_loop a b c l e2 _ 0 [] rfl (Nat.zero_le _) (fun o => by simp [pget, pfind, cntO]))) (by
    simp only [vCk, brP_iff, rowH_len]
    refine ⟨sizesB a b c, sizes_calls a b c _, fun h => ⟨?_, by trivial⟩, fun h => ⟨fun h2 => ⟨?_, by trivial⟩, fun h2 => ⟨by trivial, ?_, ?_, ?_⟩⟩⟩
    · have : sizesB a b c = false := by simpa using h
      simp [checkB, this]
    · have : decide ((l.length : Int) ≤ b) = false := by simp at h2 ⊢; omega
      simp [checkB, this]
    · simp only [iCk, rowH_len]; rfl
    · have e1 : sizesB a b c = true := by simpa using h
      have e2 : decide ((l.length : Int) ≤ b) = true := by simp at h2 ⊢; omega
      simp [checkB, e1, e2]
    · have e1 : sizesB a b c = true := by simpa using h
      simp only [sizesB, Bool.and_eq_true, decide_eq_true_eq] at e1
      simp at h2
      omega)
end Go.AM.Q
