/- Quarantine: contracts of the reference's Renew and Add: what the program computes. -/
import Derived.Test.YthcpekjcnokonaaQN
set_option maxRecDepth 100000
set_option linter.unusedVariables false
set_option linter.unusedSimpArgs false
namespace Go.AM.Q
open Go.Proofs
theorem heldEq_iff (h k : Held) : heldEq h k = true ↔ h = k := by
  obtain ⟨a1, a2, a3, a4, a5, a6, a7, a8⟩ := h
  obtain ⟨b1, b2, b3, b4, b5, b6, b7, b8⟩ := k
  simp only [heldEq, Bool.and_eq_true, strEq_iff, decide_eq_true_eq, Held.mk.injEq, and_assoc]
/-! ### Renew -/
/-- Does an entry at a place from k on, other than i, meet x? -/
def anyX (x : Held) (i : Nat) : Nat → List Held → Bool
  | _, [] => false
  | k, y :: r => (!decide (k = i) && meetsB y x) || anyX x i (k + 1) r
theorem anyX_eq (x w : Held) (i : Nat) (l : List Held) (hw : ∀ (k : Nat) (h : k < l.length), l[k] = w ↔ k = i) : ∀ (rest : List Held) (k : Nat), l.drop k = rest → anyX x i k rest = rest.any (renB w x)
  | [], k, _ => rfl
  | y :: r, k, h => by
    have hk : k < l.length := by
      rcases Nat.lt_or_ge k l.length with h1 | h1
      · exact h1
      · rw [List.drop_of_length_le h1] at h; cases h
    rw [List.drop_eq_getElem_cons hk] at h
    obtain ⟨h1, h2⟩ := List.cons.inj h
    have e : heldEq y w = decide (k = i) := by
      rw [Bool.eq_iff_iff, heldEq_iff, ← h1, hw k hk, decide_eq_true_eq]
    simp only [anyX, List.any_cons, renB, e, anyX_eq x w i l hw r (k + 1) h2, meetsB_comm x y]
theorem rel_inj {l : List Held} (h : l.Pairwise Rel) (i : Nat) (hi : i < l.length) : ∀ (k : Nat) (h : k < l.length), l[k] = l[i] ↔ k = i := by
  intro k hk
  rw [List.pairwise_iff_getElem] at h
  constructor
  · intro e
    rcases Nat.lt_trichotomy k i with h1 | h1 | h1
    · have := (h k i hk hi h1).2
      rw [e] at this
      exact absurd this (Lt.irr _)
    · exact h1
    · have := (h i k hi hk h1).2
      rw [e] at this
      exact absurd this (Lt.irr _)
  · rintro rfl
    rfl
def reX (a b c : Int) (l : List Held) (x : Held) (i k : Nat) : AV := bif anyX x i k (l.drop k) then errQ 19 else okQ a b c (l.set i x)
theorem re_loop (a b c : Int) (l : List Held) (x : Held) (i : Nat) (hi : i < l.length) (hl : l.length ≤ 32) : ∀ (n k : Nat), l.length - k = n → k ≤ l.length →
    Runs Try.prog 57 0 (hd Try.f57 15) (iRe a b c l x i k) (RetR 0 [] (reX a b c l x i k) []) := by
  intro n
  induction n with
  | zero =>
    intro k hk hj
    have hk' : k = l.length := by omega
    subst hk'
    refine runs_vc (vReL_eq a b c l x i _ (fun _ _ => False) _) (by kernel_rfl) (fun todo s h => Runs.cutA h (fun _ _ h => h.elim)) ?_
    simp only [vReL, brP_iff, rowH_len]
    refine ⟨fun h => by simp at h, fun _ => ⟨a, b, c, rowH (l.set i x), with_calls a b c l i x hi (by omega), ?_, by trivial⟩⟩
    simp [reX, anyX, okQ, qAV]
  | succ n ih =>
    intro k hk hj
    have hlt : k < l.length := by omega
    have hd : l.drop k = l[k] :: l.drop (k + 1) := List.drop_eq_getElem_cons hlt
    have hw : IntKind.i64.wrap ((k : Int) + 1) = ((k + 1 : Nat) : Int) := by rw [wrap_id (by omega) (by omega)]; simp
    refine runs_vc (vReL_eq a b c l x i k (fun id s => id = 15 ∧ s = iRe a b c l x i (k + 1) ∧ (!decide (k = i) && meetsB l[k] x) = false) _) (by kernel_rfl) (fun todo s h => Runs.cutA h ?_) ?_
    · rintro id s' ⟨rfl, rfl, h0⟩
      have := ih (k + 1) (by omega) (by omega)
      have e : reX a b c l x i k = reX a b c l x i (k + 1) := by simp only [reX, hd, anyX, h0, Bool.false_or]
      rw [e]
      exact this
    · simp only [vReL, brP_iff, hw]
      refine ⟨fun _ => ⟨fun h1 => ⟨by omega, by rw [rowH_len]; omega, exH hlt rfl ⟨meetsB l[k] x, meet_calls _ _, by trivial, fun h2 => ⟨?_, by trivial⟩, fun h2 => ⟨by trivial, by trivial, rfl, ?_⟩⟩⟩, fun h1 => ⟨by trivial, by trivial, by trivial, rfl, ?_⟩⟩, fun h => absurd h (by simp [rowH_len]; omega)⟩
      · have h3 : decide (k = i) = false := by
          simp at h1 ⊢; omega
        simp only [reX, hd, anyX, h2, h3, Bool.not_false, Bool.and_self, Bool.true_or, cond_true]
        rfl
      · simp [h2]
      · have h3 : decide (k = i) = true := by
          simp at h1 ⊢; omega
        simp [h3]
theorem renew2_calls (a b c : Int) (l : List Held) (m : Mom) (u : Int) : ACalls Try.prog 57 [qAV a b c (rowH l), .ag [.s m.p, .s m.t], .i .i64 m.e, .i .i64 m.now, .i .i64 u] [] (renewR a b c l m u) [] :=
  acalls_vc (vRe_eq a b c l m u (fun id s => id = 15 ∧ ∃ (i : Nat) (h : i < l.length), s = iRe a b c l (renH l[i] u) i 0 ∧ l.length ≤ 32 ∧ reX a b c l (renH l[i] u) i 0 = renewR a b c l m u) _) (by kernel_rfl) (by kernel_rfl) (fun todo s h => Runs.cutA h (fun id s' e => by
    obtain ⟨rfl, i, hi, rfl, h32, e⟩ := e
    rw [← e]
    exact re_loop a b c l _ i hi h32 _ 0 rfl (Nat.zero_le _))) (by
    simp only [vRe, brP_iff]
    refine ⟨checkB a b c l, check2_calls a b c l, fun h => ⟨?_, by trivial⟩, fun h => ?_⟩
    · have : checkB a b c l = false := by simpa using h
      simp only [renewR, chR, this, cond_false]
      rfl
    have hc : checkB a b c l = true := by simpa using h
    have hl := ck_len hc
    refine ⟨_, fi_calls a b c l m (by omega), fun h2 => ⟨?_, by trivial⟩, fun h2 => ?_⟩
    · rcases idxP_find (heldB m) l 0 (Int.le_refl 0) with ⟨h3, h4⟩ | ⟨x, i, h3, h4, h5⟩
      · simp only [renewR, chR, hc, h3, cond_true]
        rfl
      · rw [h4] at h2; simp at h2; omega
    rcases idxP_find (heldB m) l 0 (Int.le_refl 0) with ⟨h3, h4⟩ | ⟨x, i, h3, h4, h5, h6⟩
    · rw [h4] at h2; simp at h2
    obtain ⟨hi, hx⟩ := List.getElem?_eq_some_iff.1 h5
    have h4' : idxP (heldB m) 0 l = (i : Int) := by omega
    rw [h4']
    have er : ∀ n : Int, n ≠ 0 → renE c l l[i] u m.now = n → errQ n = renewR a b c l m u := by
      intro n h0 h1
      rw [hx] at h1
      simp [renewR, chR, hc, h3, h1, h0]
    refine ⟨by omega, by rw [rowH_len]; omega, exH (k := i) hi rfl ⟨fun h7 => ⟨er 45 (by omega) ?_, by trivial⟩, fun h7 => ⟨fun h8 => ⟨er 3 (by omega) ?_, by trivial⟩, fun h8 => ⟨fun h9 => ⟨er 3 (by omega) ?_, by trivial⟩, fun h9 => ⟨fun h10 => ⟨er 44 (by omega) ?_, by trivial⟩, fun h10 => ⟨by trivial, by trivial, i, hi, rfl, hl, ?_⟩⟩⟩⟩⟩⟩
    · simp only [renE, h7, cond_true]
    · simp only [renE, h7, h8, Bool.true_or, cond_true, cond_false]
    · simp only [renE, h7, h8, h9, Bool.or_true, cond_true, cond_false]
    · simp only [renE, h7, h8, h9, h10, Bool.or_false, cond_true, cond_false]
    · have hr := ((check_iff.1 hc).2.2).rel
      have ha := anyX_eq (renH l[i] u) l[i] i l (rel_inj hr i hi) l 0 rfl
      have he : renE c l l[i] u m.now = bif l.any (renB l[i] (renH l[i] u)) then 19 else 0 := by
        simp only [renE, h7, h8, h9, h10, Bool.or_false, cond_true, cond_false]
      simp only [reX, List.drop_zero, ha]
      cases hb : l.any (renB l[i] (renH l[i] u)) with
      | true => rw [hb] at he; exact er 19 (by omega) he
      | false =>
        rw [hb] at he
        rw [hx] at he
        simp [renewR, chR, hc, h3, ← h6, hx, he])
/-! ### Add -/
/-- x among the entries, ahead of the first that it comes before. -/
def ins (x : Held) : List Held → List Held
  | [] => [x]
  | y :: r => bif decide (compareI x y < 0) then x :: y :: r else y :: ins x r
def adX (a b c : Int) (l : List Held) (x : Held) (d : Bool) (out rest : List Held) : AV :=
  bif rest.any (fun y => meetsB y x) then errQ 19 else bif decide (b ≤ (l.length : Int)) then errQ 42 else bif decide (a ≤ (cntO x.by' l : Int)) then errQ 43 else okQ a b c (out ++ bif d then rest else ins x rest)
theorem ad_loop (a b c : Int) (l : List Held) (x : Held) (hl : l.length ≤ 32) : ∀ (n j : Nat) (out : List Held) (d : Bool), l.length - j = n → j ≤ l.length → out.length ≤ 2 * j →
    Runs Try.prog 56 0 (hd Try.f56 11) (iAd a b c l out x d j) (RetR 0 [] (adX a b c l x d out (l.drop j)) []) := by
  have h1x : ∀ z : Held, ∀ y : List AV, List.Mem y [z.cells] → y.length = 8 := by
    intro z y hy
    cases hy with
    | head => rfl
    | tail _ h => cases h
  intro n
  induction n with
  | zero =>
    intro j out d hk hj ho
    have hk' : j = l.length := by omega
    subst hk'
    refine runs_vc (vAdL_eq a b c l out x d _ (fun _ _ => False) _) (by kernel_rfl) (fun todo s h => Runs.cutA h (fun _ _ h => h.elim)) ?_
    simp only [vAdL, brP_iff, rowH_len, List.drop_length]
    refine ⟨fun h => by simp at h, fun _ => ⟨fun hd => ⟨by omega, by omega, h1x x, fun h1 => ⟨?_, by trivial⟩, fun h1 => ⟨_, ow_calls a b c l x.by' (by omega), by trivial, fun h2 => ⟨?_, by trivial⟩, fun h2 => ⟨?_, by trivial⟩⟩⟩, fun hd => ⟨fun h1 => ⟨?_, by trivial⟩, fun h1 => ⟨_, ow_calls a b c l x.by' (by omega), by trivial, fun h2 => ⟨?_, by trivial⟩, fun h2 => ⟨?_, by trivial⟩⟩⟩⟩⟩
    · simp only [adX, List.any_nil, h1, cond_true, cond_false]; rfl
    · simp only [adX, List.any_nil, h1, h2, cond_true, cond_false]; rfl
    · have hd' : d = false := by simpa using hd
      simp only [adX, List.any_nil, h1, h2, hd', cond_true, cond_false, ins, okQ, qAV, ← rowH_snoc]
      rfl
    · simp only [adX, List.any_nil, h1, cond_true, cond_false]; rfl
    · simp only [adX, List.any_nil, h1, h2, cond_true, cond_false]; rfl
    · have hd' : d = true := by simpa using hd
      simp only [adX, List.any_nil, h1, h2, hd', cond_true, cond_false, okQ, qAV, List.append_nil]
  | succ n ih =>
    intro j out d hk hj ho
    have hlt : j < l.length := by omega
    have hdr : l.drop j = l[j] :: l.drop (j + 1) := List.drop_eq_getElem_cons hlt
    have hw : IntKind.i64.wrap ((j : Int) + 1) = ((j + 1 : Nat) : Int) := by rw [wrap_id (by omega) (by omega)]; simp
    refine runs_vc (vAdL_eq a b c l out x d j (fun id s => id = 11 ∧ meetsB l[j] x = false ∧ ((d = false ∧ decide (compareI x l[j] < 0) = true ∧ s = iAd a b c l (out ++ [x] ++ [l[j]]) x true (j + 1)) ∨ (d = false ∧ decide (compareI x l[j] < 0) = false ∧ s = iAd a b c l (out ++ [l[j]]) x false (j + 1)) ∨ (d = true ∧ s = iAd a b c l (out ++ [l[j]]) x true (j + 1)))) _) (by kernel_rfl) (fun todo s h => Runs.cutA h ?_) ?_
    · rintro id s' ⟨rfl, h0, ⟨rfl, h1, rfl⟩ | ⟨rfl, h1, rfl⟩ | ⟨rfl, rfl⟩⟩
      · have e : adX a b c l x false out (l.drop j) = adX a b c l x true (out ++ [x] ++ [l[j]]) (l.drop (j + 1)) := by
          simp only [adX, hdr, List.any_cons, h0, Bool.false_or, ins, h1, cond_true, cond_false, List.append_assoc, List.singleton_append, List.cons_append, List.nil_append]
        rw [e]
        exact ih (j + 1) _ _ (by omega) (by omega) (by simp; omega)
      · have e : adX a b c l x false out (l.drop j) = adX a b c l x false (out ++ [l[j]]) (l.drop (j + 1)) := by
          simp only [adX, hdr, List.any_cons, h0, Bool.false_or, ins, h1, cond_true, cond_false, List.append_assoc, List.singleton_append, List.cons_append, List.nil_append]
        rw [e]
        exact ih (j + 1) _ _ (by omega) (by omega) (by simp; omega)
      · have e : adX a b c l x true out (l.drop j) = adX a b c l x true (out ++ [l[j]]) (l.drop (j + 1)) := by
          simp only [adX, hdr, List.any_cons, h0, Bool.false_or, ins, cond_true, cond_false, List.append_assoc, List.singleton_append, List.cons_append, List.nil_append]
        rw [e]
        exact ih (j + 1) _ _ (by omega) (by omega) (by simp; omega)
    · have ex : ∀ z : Held, rowH out ++ [z.cells] = rowH (out ++ [z]) := fun z => rowH_snoc out z
      have s1 : (rowH out).length ≤ 64 := by rw [rowH_len]; omega
      have s2 : ∀ z : List AV, (rowH out ++ [z]).length ≤ 65 := by intro z; simp only [List.length_append, List.length_singleton]; omega
      simp only [vAdL, brP_iff, hw]
      refine ⟨fun _ => ⟨by omega, by rw [rowH_len]; omega, exH hlt rfl ⟨meetsB l[j] x, meet_calls _ _, by trivial, fun h1 => ⟨?_, by trivial⟩, fun h1 => ⟨fun hd => ⟨by omega, by rw [rowH_len]; omega, exH hlt rfl ⟨_, less_calls x l[j], by trivial, fun h2 => ⟨by omega, by omega, h1x x, by omega, by rw [rowH_len]; omega, exH hlt rfl ⟨by have := s2 x.cells; simp only [Held.cells] at this; omega, by have := s2 x.cells; simp only [Held.cells] at this; omega, h1x l[j], by trivial, by trivial, h1, .inl ⟨by simpa using hd, h2, ?_⟩⟩⟩, fun h2 => ⟨by omega, by rw [rowH_len]; omega, exH hlt rfl ⟨by omega, by omega, h1x l[j], by trivial, by trivial, h1, .inr (.inl ⟨by simpa using hd, h2, ?_⟩)⟩⟩⟩⟩, fun hd => ⟨by trivial, by omega, by rw [rowH_len]; omega, exH hlt rfl ⟨by omega, by omega, h1x l[j], by trivial, by trivial, h1, .inr (.inr ⟨by simpa using hd, ?_⟩)⟩⟩⟩⟩⟩, fun h => absurd h (by simp [rowH_len]; omega)⟩
      · simp only [adX, hdr, List.any_cons, h1, Bool.true_or, cond_true]; rfl
      · unfold iAd
        rw [← rowH_snoc, ← rowH_snoc]
        rfl
      · have hd' : d = false := by simpa using hd
        unfold iAd
        rw [← rowH_snoc, hd']
        rfl
      · have hd' : d = true := by simpa using hd
        unfold iAd
        rw [← rowH_snoc, hd']
        rfl
/-- The place that is found by halving. -/
theorem bsF_spec (p : Nat → Bool) (N : Nat) (mono : ∀ h k, h < k → k < N → p k = true → p h = true) : ∀ (n i j : Nat), j - i ≤ n → i ≤ j → j ≤ N → (∀ k, k < i → p k = true) → (∀ k, j ≤ k → k < N → p k = false) → (∀ k, k < bsF p n i j → p k = true) ∧ (∀ k, bsF p n i j ≤ k → k < N → p k = false)
  | 0, i, j, h, hij, hj, h1, h2 => by
    have : i = j := by omega
    subst this
    exact ⟨h1, h2⟩
  | n + 1, i, j, h, hij, hj, h1, h2 => by
    unfold bsF
    split
    · rename_i hlt
      cases hp : p ((i + j) / 2) with
      | true =>
        refine bsF_spec p N mono n _ j (by omega) (by omega) hj (fun k hk => ?_) h2
        rcases Nat.lt_or_ge k ((i + j) / 2) with h3 | h3
        · exact mono k _ h3 (by omega) hp
        · have : k = (i + j) / 2 := by omega
          rw [this, hp]
      | false =>
        refine bsF_spec p N mono n i _ (by omega) (by omega) (by omega) h1 (fun k hk hkn => ?_)
        rcases Nat.lt_or_ge ((i + j) / 2) k with h3 | h3
        · cases hk2 : p k with
          | false => rfl
          | true => rw [mono _ k h3 hkn hk2] at hp; cases hp
        · have : k = (i + j) / 2 := by omega
          rw [this, hp]
    · have : i = j := by omega
      subst this
      exact ⟨h1, h2⟩
theorem ins_take (x : Held) : ∀ (l : List Held) (r : Nat), r ≤ l.length → (∀ (k : Nat) (h : k < l.length), k < r → ¬ compareI x l[k] < 0) → (∀ h : r < l.length, compareI x l[r] < 0) → ins x l = l.take r ++ x :: l.drop r
  | [], r, hr, _, _ => by
    have : r = 0 := by simpa using hr
    subst this
    rfl
  | y :: t, 0, hr, h1, h2 => by
    have := h2 (by simp)
    simp only [List.getElem_cons_zero] at this
    simp [ins, this]
  | y :: t, r + 1, hr, h1, h2 => by
    have h0 := h1 0 (by simp) (by omega)
    simp only [List.getElem_cons_zero] at h0
    have := ins_take x t r (by simpa using hr) (fun k hk hkr => by
      have := h1 (k + 1) (by simpa using hk) (by omega)
      simpa using this) (fun h => by
      have := h2 (by simpa using h)
      simpa using this)
    simp [ins, h0, this]
theorem addL_ins {l : List Held} {x : Held} (hx : x.f < x.u) (hp : l.Pairwise Rel) (he : ∀ y ∈ l, y.f < y.u) (hm : ∀ y ∈ l, meetsB y x = false) : addL l x = ins x l := by
  have hne : ∀ y ∈ l, compareI y x ≠ 0 := by
    intro y hy h0
    rw [cmp_eq0] at h0
    have h1 := hm y hy
    have h2 := he y hy
    rw [← Bool.not_eq_true, meetsB_iff] at h1
    exact h1 ⟨h0.1, h0.2.1, h0.2.2.1, by omega, by omega⟩
  have hlt : ∀ (k : Nat) (h : k < l.length), ltAt l x k = decide (compareI l[k] x < 0) := by
    intro k h
    simp [ltAt, h]
  rw [List.pairwise_iff_getElem] at hp
  have hs := bsF_spec (ltAt l x) l.length (fun h k hhk hk hpk => by
    rw [hlt k hk, decide_eq_true_eq, cmp_lt] at hpk
    rw [hlt h (by omega), decide_eq_true_eq, cmp_lt]
    exact (hp h k (by omega) hk hhk).2.trans hpk) l.length 0 l.length (by omega) (Nat.zero_le _) (Nat.le_refl _) (by omega) (by omega)
  have hb := bsF_le (ltAt l x) l.length 0 l.length (Nat.zero_le _)
  symm
  refine ins_take x l (bsI l x) hb.2 (fun k hk hkr => ?_) (fun h => ?_)
  · have := hs.1 k hkr
    rw [hlt k hk, decide_eq_true_eq, cmp_lt] at this
    rw [cmp_lt]
    exact this.asymm
  · have := hs.2 (bsI l x) (Nat.le_refl _) h
    rw [hlt _ h, decide_eq_false_iff_not, cmp_lt] at this
    rw [cmp_lt]
    rcases Lt.total x l[bsI l x] with h1 | h1 | h1
    · exact h1
    · exact absurd h1 this
    · exfalso
      refine hne l[bsI l x] (List.getElem_mem h) ?_
      rw [cmp_eq0] at h1 ⊢
      exact ⟨h1.1.symm, h1.2.1.symm, h1.2.2.1.symm, h1.2.2.2.symm⟩
theorem cnt_eq {a b c : Int} {l : List Held} (hc : checkB a b c l = true) (o : ByteArray) : decide (a ≤ (cntO o l : Int)) = decide (loadI a b c l o = a) := by
  obtain ⟨h1, h2, h3⟩ := check_iff.1 hc
  have e : loadI a b c l o = cntO o l := by simp [loadI, hc]
  have hle : (cntO o l : Int) ≤ a := by
    by_cases hex : ∃ y ∈ l, y.by' = o
    · obtain ⟨y, hy, rfl⟩ := hex
      exact h3.cnt y hy
    · have : cntO o l = 0 := by
        unfold cntO
        rw [List.length_eq_zero_iff, List.filter_eq_nil_iff]
        intro y hy hh
        rw [strEq_iff] at hh
        exact hex ⟨y, hy, hh⟩
      simp only [sizesB, Bool.and_eq_true, decide_eq_true_eq] at h1
      omega
  rw [e]
  congr 1
  rw [eq_iff_iff]
  omega
theorem ad2_eq {a b c : Int} {l : List Held} {x : Held} (hc : checkB a b c l = true) (hwho : whoB x = true) (h3 : (decide (x.f < 0) || decide (x.u ≤ x.f) || decide (1073741824 < x.u)) = false) (h4 : decide (c < IntKind.i64.wrap (x.u - x.f)) = false) : adX a b c l x false [] l = addR a b c l x := by
  obtain ⟨h1, h2, hg⟩ := check_iff.1 hc
  have e0 : addE a b c l x = bif l.any (meetsB x) then 19 else bif decide ((l.length : Int) = b) then 42 else bif decide (loadI a b c l x.by' = a) then 43 else 0 := by
    simp only [addE, hc, hwho, h3, h4, Bool.not_true, Bool.or_false, cond_false]
  have e1 : l.any (fun y => meetsB y x) = l.any (meetsB x) := by
    congr 1
    funext y
    exact meetsB_comm y x
  have e2 : decide (b ≤ (l.length : Int)) = decide ((l.length : Int) = b) := by
    congr 1
    rw [eq_iff_iff]
    omega
  have e3 := cnt_eq hc x.by'
  unfold adX addR
  rw [e0, e1, e2, e3]
  cases hm : l.any (meetsB x) with
  | true => simp
  | false =>
    cases hb : decide ((l.length : Int) = b) with
    | true => simp
    | false =>
      cases ha : decide (loadI a b c l x.by' = a) with
      | true => simp
      | false =>
        simp only [cond_false, decide_true, cond_true, List.nil_append]
        congr 1
        symm
        refine addL_ins ?_ hg.rel (fun y hy => entry_fu (hg.ent y hy)) (fun y hy => ?_)
        · simp only [Bool.or_eq_false_iff, decide_eq_false_iff_not] at h3
          omega
        · have := List.any_eq_false.1 hm y hy
          rw [meetsB_comm]
          simpa using this
theorem add2Q_calls (a b c : Int) (l : List Held) (p t : ByteArray) (e : Int) (o : ByteArray) (f u : Int) :
    ACalls Try.prog 56 [qAV a b c (rowH l), .ag [.s p, .s t], .i .i64 e, .s o, .i .i64 f, .i .i64 u] [] (addR a b c l ⟨p, t, e, o, f, u, 0, 0⟩) [] :=
  acalls_vc (vAd_eq a b c l p t e o f u (fun id s => id = 11 ∧ s = iAd a b c l [] ⟨p, t, e, o, f, u, 0, 0⟩ false 0 ∧ l.length ≤ 32 ∧ adX a b c l ⟨p, t, e, o, f, u, 0, 0⟩ false [] l = addR a b c l ⟨p, t, e, o, f, u, 0, 0⟩) _) (by kernel_rfl) (by kernel_rfl) (fun todo s h => Runs.cutA h (fun id s' e => by
    obtain ⟨rfl, rfl, h32, e⟩ := e
    rw [← e]
    exact ad_loop a b c l _ h32 _ 0 [] false rfl (Nat.zero_le _) (Nat.zero_le _))) (by
    have err : ∀ n : Int, n ≠ 0 → addE a b c l ⟨p, t, e, o, f, u, 0, 0⟩ = n → errQ n = addR a b c l ⟨p, t, e, o, f, u, 0, 0⟩ := by
      intro n h0 h1
      unfold addR
      rw [h1]
      simp [h0]
    have hwho : whoB ⟨p, t, e, o, f, u, 0, 0⟩ = usbB p t o e := rfl
    simp only [vAd, brP_iff]
    refine ⟨checkB a b c l, check2_calls a b c l, fun h => ⟨err 1 (by omega) ?_, by trivial⟩, fun h => ?_⟩
    · simp only [addE, h, Bool.true_or, cond_true]
    have hc : checkB a b c l = true := by simpa using h
    have hl := ck_len hc
    refine ⟨usbB p t o e, usb_calls p t o e, fun h2 => ⟨err 1 (by omega) ?_, by trivial⟩, fun h2 => ?_⟩
    · simp only [addE, hwho, h2, Bool.or_true, cond_true]
    refine ⟨fun h3 => ⟨err 3 (by omega) ?_, by trivial⟩, fun h3 => ⟨fun h4 => ⟨err 3 (by omega) ?_, by trivial⟩, fun h4 => ⟨fun h5 => ⟨err 3 (by omega) ?_, by trivial⟩, fun h5 => ⟨fun h6 => ⟨err 44 (by omega) ?_, by trivial⟩, fun h6 => ⟨by trivial, by trivial, rfl, hl, ad2_eq hc ?_ ?_ ?_⟩⟩⟩⟩⟩
    · simp only [addE, h, hwho, h2, h3, Bool.or_self, Bool.true_or, cond_true, cond_false]
    · simp only [addE, h, hwho, h2, h3, h4, Bool.or_self, Bool.true_or, Bool.or_true, cond_true, cond_false]
    · simp only [addE, h, hwho, h2, h3, h4, h5, Bool.or_self, Bool.true_or, Bool.or_true, cond_true, cond_false]
    · simp only [addE, h, hwho, h2, h3, h4, h5, h6, Bool.or_self, Bool.true_or, Bool.or_true, cond_true, cond_false]
    · rw [hwho]; simpa using h2
    · simp only [h3, h4, h5, Bool.or_self]
    · exact h6)
end Go.AM.Q
