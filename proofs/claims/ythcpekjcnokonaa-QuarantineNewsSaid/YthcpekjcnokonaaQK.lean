/- Quarantine: the plain law of its order, of Check and of the place of a new entry; nothing of the program's code. -/
import Derived.Test.YthcpekjcnokonaaQI
import Derived.Lib.Bytealg
set_option maxRecDepth 100000
set_option linter.unusedVariables false
set_option linter.unusedSimpArgs false
namespace Go.AM.Q
open Go.Proofs
/-! ### Strings in order -/
abbrev cb := Lib.compareBytes
theorem u8_tri (a b : UInt8) : a < b ∨ b < a ∨ a = b := by
  rcases Nat.lt_trichotomy a.toNat b.toNat with h | h | h
  · exact .inl (UInt8.lt_iff_toNat_lt.2 h)
  · exact .inr (.inr (UInt8.toNat_inj.1 h))
  · exact .inr (.inl (UInt8.lt_iff_toNat_lt.2 h))
theorem u8_irr {a b : UInt8} (h : a < b) : ¬ b < a := by
  rw [UInt8.lt_iff_toNat_lt] at *
  omega
theorem u8_trans {a b c : UInt8} (h : a < b) (k : b < c) : a < c := by
  rw [UInt8.lt_iff_toNat_lt] at *
  omega
theorem u8_self (a : UInt8) : ¬ a < a := by
  rw [UInt8.lt_iff_toNat_lt]
  omega
theorem cb_self : ∀ l, cb l l = 0
  | [] => rfl
  | a :: r => by simp [cb, Lib.compareBytes, u8_self, cb_self r]
theorem cb_zero : ∀ {l m}, cb l m = 0 → l = m
  | [], [], _ => rfl
  | [], _ :: _, h => by simp [cb, Lib.compareBytes] at h
  | _ :: _, [], h => by simp [cb, Lib.compareBytes] at h
  | a :: r, b :: s, h => by
    simp only [cb, Lib.compareBytes] at h
    split at h
    · simp at h
    · split at h
      · simp at h
      · rcases u8_tri a b with h1 | h1 | h1
        · contradiction
        · contradiction
        · rw [h1, cb_zero h]
theorem cb_swap : ∀ l m, cb m l = - cb l m
  | [], [] => rfl
  | [], _ :: _ => rfl
  | _ :: _, [] => rfl
  | a :: r, b :: s => by
    simp only [cb, Lib.compareBytes]
    rcases u8_tri a b with h1 | h1 | h1
    · simp [h1, u8_irr h1]
    · simp [h1, u8_irr h1]
    · subst h1; simp [u8_self]; exact cb_swap r s
theorem cb_rng : ∀ l m, cb l m = -1 ∨ cb l m = 0 ∨ cb l m = 1
  | [], [] => by simp [cb, Lib.compareBytes]
  | [], _ :: _ => by simp [cb, Lib.compareBytes]
  | _ :: _, [] => by simp [cb, Lib.compareBytes]
  | a :: r, b :: s => by
    simp only [cb, Lib.compareBytes]
    split
    · simp
    · split
      · simp
      · exact cb_rng r s
theorem cb_trans : ∀ {l m n}, cb l m < 0 → cb m n < 0 → cb l n < 0
  | [], [], _, h, _ => by simp [cb, Lib.compareBytes] at h
  | [], _ :: _, [], _, k => by simp [cb, Lib.compareBytes] at k
  | [], _ :: _, _ :: _, _, _ => by simp [cb, Lib.compareBytes]
  | _ :: _, [], _, h, _ => by simp [cb, Lib.compareBytes] at h
  | _ :: _, _ :: _, [], _, k => by simp [cb, Lib.compareBytes] at k
  | a :: r, b :: s, c :: t, h, k => by
    simp only [cb, Lib.compareBytes] at *
    rcases u8_tri a b with h1 | h1 | h1
    · rcases u8_tri b c with h2 | h2 | h2
      · simp [u8_trans h1 h2]
      · simp [h2, u8_irr h2] at k
      · subst h2; simp [h1]
    · simp [h1, u8_irr h1] at h
    · subst h1
      rcases u8_tri a c with h2 | h2 | h2
      · simp [h2]
      · simp [h2, u8_irr h2] at k
      · subst h2
        simp [u8_self] at h k ⊢
        exact cb_trans h k
theorem less_cb : ∀ l m, Op.bytesLess l m = decide (cb l m < 0)
  | [], [] => rfl
  | [], _ :: _ => rfl
  | _ :: _, [] => rfl
  | a :: r, b :: s => by
    simp only [Op.bytesLess, cb, Lib.compareBytes]
    rcases u8_tri a b with h1 | h1 | h1
    · simp [h1]
    · have h2 : ¬ a < b := u8_irr h1
      have h3 : a ≠ b := fun e => u8_self b (e ▸ h1)
      simp [h1, h2, h3]
    · subst h1
      simp [u8_self, less_cb r s]
def cbs (x y : ByteArray) : Int := cb x.data.toList y.data.toList
theorem data_inj {x y : ByteArray} (h : x.data.toList = y.data.toList) : x = y := toList_inj (by rw [ByteArray.toList_eq, ByteArray.toList_eq, h])
theorem cbs_self (x : ByteArray) : cbs x x = 0 := cb_self _
theorem cbs_zero {x y : ByteArray} (h : cbs x y = 0) : x = y := data_inj (cb_zero h)
theorem cbs_swap (x y : ByteArray) : cbs y x = - cbs x y := cb_swap _ _
theorem cbs_trans {x y z : ByteArray} (h : cbs x y < 0) (k : cbs y z < 0) : cbs x z < 0 := cb_trans h k
theorem cmpS_cbs (x y : ByteArray) : cmpS x y = cbs x y := by
  unfold cmpS
  rw [less_cb, ByteArray.toList_eq, ByteArray.toList_eq]
  have hr := cb_rng x.data.toList y.data.toList
  cases h : strEq x y with
  | true =>
    rw [strEq_iff] at h
    subst h
    simp [cbs, cb_self]
  | false =>
    rw [strEq_ne] at h
    have h0 : cb x.data.toList y.data.toList ≠ 0 := fun e => h (cbs_zero e)
    show _ = cb x.data.toList y.data.toList
    rcases hr with e | e | e
    · simp [e]
    · exact absurd e h0
    · simp [e]
/-! ### Entries in order -/
/-- Comes h before k? -/
def Lt (h k : Held) : Prop := cbs h.p k.p < 0 ∨ (h.p = k.p ∧ (cbs h.t k.t < 0 ∨ (h.t = k.t ∧ (h.e < k.e ∨ (h.e = k.e ∧ h.f < k.f)))))
theorem cmpI_cases (x y : Int) : (x < y ∧ cmpI x y = -1) ∨ (x = y ∧ cmpI x y = 0) ∨ (y < x ∧ cmpI x y = 1) := by
  unfold cmpI
  rcases Int.lt_trichotomy x y with h | h | h
  · left; simp [h]
  · right; left; subst h; simp
  · right; right; simp [h, Int.not_lt.2 (Int.le_of_lt h)]
theorem cmp_lt (h k : Held) : compareI h k < 0 ↔ Lt h k := by
  unfold compareI Lt
  rw [cmpS_cbs, cmpS_cbs]
  simp only [orS]
  by_cases h1 : cbs h.p k.p = 0
  · have e1 := cbs_zero h1
    by_cases h2 : cbs h.t k.t = 0
    · have e2 := cbs_zero h2
      rw [h1, h2]
      rcases cmpI_cases h.e k.e with ⟨a, b⟩ | ⟨a, b⟩ | ⟨a, b⟩ <;> rcases cmpI_cases h.f k.f with ⟨c, d⟩ | ⟨c, d⟩ | ⟨c, d⟩ <;> simp [b, d, e1, e2] <;> omega
    · have n2 : h.t ≠ k.t := fun e => h2 (by rw [e]; exact cbs_self _)
      rw [h1]
      simp [h2, n2, e1]
  · have n1 : h.p ≠ k.p := fun e => h1 (by rw [e]; exact cbs_self _)
    simp [h1, n1]
theorem cmp_eq0 (h k : Held) : compareI h k = 0 ↔ h.p = k.p ∧ h.t = k.t ∧ h.e = k.e ∧ h.f = k.f := by
  unfold compareI
  rw [cmpS_cbs, cmpS_cbs]
  simp only [orS]
  by_cases h1 : cbs h.p k.p = 0
  · have e1 := cbs_zero h1
    by_cases h2 : cbs h.t k.t = 0
    · have e2 := cbs_zero h2
      rw [h1, h2]
      rcases cmpI_cases h.e k.e with ⟨a, b⟩ | ⟨a, b⟩ | ⟨a, b⟩ <;> rcases cmpI_cases h.f k.f with ⟨c, d⟩ | ⟨c, d⟩ | ⟨c, d⟩ <;> simp [b, d, e1, e2] <;> omega
    · have n2 : h.t ≠ k.t := fun e => h2 (by rw [e]; exact cbs_self _)
      rw [h1]
      simp [h2, n2, e1]
  · have n1 : h.p ≠ k.p := fun e => h1 (by rw [e]; exact cbs_self _)
    simp [h1, n1]
theorem Lt.trans {a b c : Held} (h : Lt a b) (k : Lt b c) : Lt a c := by
  unfold Lt at *
  rcases h with h | ⟨h1, h⟩
  · rcases k with k | ⟨k1, k⟩
    · exact .inl (cbs_trans h k)
    · rw [← k1]; exact .inl h
  · rcases k with k | ⟨k1, k⟩
    · rw [h1]; exact .inl k
    · refine .inr ⟨h1.trans k1, ?_⟩
      rcases h with h | ⟨h2, h⟩
      · rcases k with k | ⟨k2, k⟩
        · exact .inl (cbs_trans h k)
        · rw [← k2]; exact .inl h
      · rcases k with k | ⟨k2, k⟩
        · rw [h2]; exact .inl k
        · exact .inr ⟨h2.trans k2, by omega⟩
theorem Lt.irr (a : Held) : ¬ Lt a a := by
  unfold Lt
  rw [cbs_self, cbs_self]
  omega
theorem Lt.asymm {a b : Held} (h : Lt a b) : ¬ Lt b a := fun k => Lt.irr a (h.trans k)
theorem Lt.total (a b : Held) : Lt a b ∨ Lt b a ∨ compareI a b = 0 := by
  rw [cmp_eq0]
  unfold Lt
  have s1 := cbs_swap a.p b.p
  have s2 := cbs_swap a.t b.t
  by_cases h1 : a.p = b.p
  · by_cases h2 : a.t = b.t
    · simp only [h1, h2, cbs_self, true_and, Int.lt_irrefl, false_or]; omega
    · have : cbs a.t b.t ≠ 0 := fun e => h2 (cbs_zero e)
      have h2' : ¬ b.t = a.t := fun e => h2 e.symm
      simp only [h1, h2, h2', true_and, false_and, or_false, and_false]
      omega
  · have : cbs a.p b.p ≠ 0 := fun e => h1 (cbs_zero e)
    simp only [h1, false_and, or_false]
    omega
theorem meetsB_iff (h k : Held) : meetsB h k = true ↔ h.p = k.p ∧ h.t = k.t ∧ h.e = k.e ∧ h.f < k.u ∧ k.f < h.u := by
  simp only [meetsB, Bool.and_eq_true, strEq_iff, decide_eq_true_eq, and_assoc]
theorem meetsB_comm (h k : Held) : meetsB h k = meetsB k h := by
  rw [Bool.eq_iff_iff, meetsB_iff, meetsB_iff]
  constructor <;> rintro ⟨a, b, c, d, e⟩ <;> exact ⟨a.symm, b.symm, c.symm, e, d⟩
/-- What two entries of a quarantine, one behind the other, are to each other. -/
def Rel (y x : Held) : Prop := meetsB y x = false ∧ Lt y x
theorem Rel.trans {a b c : Held} (hb : b.f < b.u) (h : Rel a b) (k : Rel b c) : Rel a c := by
  refine ⟨?_, h.2.trans k.2⟩
  have h1 := h.1
  have h2 := h.2
  have k2 := k.2
  rw [← Bool.not_eq_true, meetsB_iff] at h1 ⊢
  rintro ⟨e1, e2, e3, e4, e5⟩
  -- the one between is of the same test
  have hp : a.p = b.p ∧ a.t = b.t ∧ a.e = b.e ∧ a.f < b.f ∧ b.f < c.f := by
    unfold Lt at h2 k2
    rw [← e1, ← e2, ← e3] at k2
    have s1 := cbs_swap a.p b.p
    have s2 := cbs_swap a.t b.t
    rcases h2 with h | ⟨h, h2⟩
    · rcases k2 with k | ⟨k, k2⟩
      · omega
      · rw [k, cbs_self] at h; omega
    · rcases k2 with k | ⟨k, k2⟩
      · rw [h, cbs_self] at k; omega
      · refine ⟨h, ?_⟩
        rcases h2 with h | ⟨h, h2⟩
        · rcases k2 with k | ⟨k, k2⟩
          · omega
          · rw [k, cbs_self] at h; omega
        · rcases k2 with k | ⟨k, k2⟩
          · rw [h, cbs_self] at k; omega
          · exact ⟨h, by omega⟩
  exact h1 ⟨hp.1, hp.2.1, hp.2.2.1, by omega, by omega⟩
/-- The entries are right, for the numbers a and c. -/
structure Good (a c : Int) (l : List Held) : Prop where
  ent : ∀ x ∈ l, entryB c x = true
  cnt : ∀ x ∈ l, (cntO x.by' l : Int) ≤ a
  rel : l.Pairwise Rel
theorem entry_fu {c : Int} {x : Held} (h : entryB c x = true) : x.f < x.u := by
  simp only [entryB, Bool.and_eq_true, decide_eq_true_eq] at h
  omega
theorem cntO_app (o : ByteArray) (l m : List Held) : cntO o (l ++ m) = cntO o l + cntO o m := by simp [cntO]
theorem ckFrom_iff {a c : Int} : ∀ (rest seen : List Held), Good a c seen → (ckFrom a c seen rest = true ↔ Good a c (seen ++ rest))
  | [], seen, hg => by simpa [ckFrom] using hg
  | x :: r, seen, hg => by
    have hlast : (match seen.getLast? with | none => true | some p => decide (compareI p x < 0) && !meetsB p x) = true ↔ ∀ p, seen.getLast? = some p → Rel p x := by
      cases hs : seen.getLast? with
      | none => simp
      | some p => simp [Rel, cmp_lt, and_comm]
    have e : seen ++ x :: r = (seen ++ [x]) ++ r := by simp
    rw [e]
    constructor
    · intro h
      simp only [ckFrom, Bool.and_eq_true, decide_eq_true_eq] at h
      obtain ⟨⟨⟨h1, h2⟩, h3⟩, h4⟩ := h
      have h3 := hlast.1 h3
      refine (ckFrom_iff r (seen ++ [x]) ⟨fun y hy => ?_, fun y hy => ?_, ?_⟩).1 h4
      · rcases List.mem_append.1 hy with h | h
        · exact hg.ent y h
        · simp at h; subst h; exact h1
      · by_cases hb : y.by' = x.by'
        · rw [hb]; exact h2
        · rcases List.mem_append.1 hy with h | h
          · have := hg.cnt y h
            rw [cntO_snoc, if_neg (fun e => hb e.symm)]
            simpa using this
          · simp at h; subst h; exact absurd rfl hb
      · rw [List.pairwise_append]
        refine ⟨hg.rel, by simp, fun y hy z hz => ?_⟩
        simp at hz
        subst hz
        rcases List.eq_nil_or_concat seen with hn | ⟨s, p, hs⟩
        · subst hn; simp at hy
        · have hp := h3 p (by rw [hs]; simp)
          rw [hs, List.concat_eq_append] at hy
          rcases List.mem_append.1 hy with h | h
          · have hr := hg.rel
            rw [hs, List.concat_eq_append, List.pairwise_append] at hr
            exact (hr.2.2 y h p (by simp)).trans (entry_fu (hg.ent p (by rw [hs]; simp))) hp
          · simp at h; subst h; exact hp
    · intro h
      have hsub : Good a c (seen ++ [x]) := ⟨fun y hy => h.ent y (List.mem_append_left _ hy), fun y hy => by
        have := h.cnt y (List.mem_append_left _ hy)
        rw [cntO_app] at this
        omega, (List.pairwise_append.1 h.rel).1⟩
      simp only [ckFrom, Bool.and_eq_true, decide_eq_true_eq]
      refine ⟨⟨⟨hsub.ent x (by simp), hsub.cnt x (by simp)⟩, hlast.2 fun p hp => ?_⟩, (ckFrom_iff r (seen ++ [x]) hsub).2 h⟩
      exact (List.pairwise_append.1 hsub.rel).2.2 p (List.mem_of_getLast? hp) x (by simp)
theorem Good.nil (a c : Int) : Good a c [] := ⟨by simp, by simp, .nil⟩
theorem check_iff {a b c : Int} {l : List Held} : checkB a b c l = true ↔ sizesB a b c = true ∧ (l.length : Int) ≤ b ∧ Good a c l := by
  simp only [checkB, Bool.and_eq_true, decide_eq_true_eq, and_assoc]
  rw [ckFrom_iff l [] (.nil a c)]
  simp
/-- The same, as the reference asks it. -/
def ck2 (a c : Int) (l : List Held) : List Held → List Held → Bool
  | _, [] => true
  | seen, x :: r => entryB c x && decide ((cntO x.by' l : Int) ≤ a) && seen.all (fun y => !meetsB y x && decide (compareI y x < 0)) && ck2 a c l (seen ++ [x]) r
theorem ck2_iff {a c : Int} {l : List Held} : ∀ (rest seen : List Held), ck2 a c l seen rest = true ↔ (∀ x ∈ rest, entryB c x = true) ∧ (∀ x ∈ rest, (cntO x.by' l : Int) ≤ a) ∧ (∀ x ∈ rest, ∀ y ∈ seen, Rel y x) ∧ rest.Pairwise Rel
  | [], seen => by simp [ck2]
  | x :: r, seen => by
    have hall : seen.all (fun y => !meetsB y x && decide (compareI y x < 0)) = true ↔ ∀ y ∈ seen, Rel y x := by
      simp [List.all_eq_true, Rel, cmp_lt]
    simp only [ck2, Bool.and_eq_true, decide_eq_true_eq, hall, ck2_iff r (seen ++ [x]), List.mem_cons, forall_eq_or_imp, List.pairwise_cons, List.mem_append, List.mem_singleton]
    constructor
    · rintro ⟨⟨⟨h1, h2⟩, h3⟩, h4, h5, h6, h7⟩
      exact ⟨⟨h1, h4⟩, ⟨h2, h5⟩, ⟨h3, fun z hz y hy => h6 z hz y (.inl hy)⟩, fun z hz => h6 z hz x (.inr (.inl rfl)), h7⟩
    · rintro ⟨⟨h1, h4⟩, ⟨h2, h5⟩, ⟨h3, h6⟩, h8, h7⟩
      exact ⟨⟨⟨h1, h2⟩, h3⟩, h4, h5, fun z hz y hy => hy.elim (h6 z hz y) (fun e => by rcases e with rfl | e; exact h8 z hz; cases e), h7⟩
theorem ck2_check (a b c : Int) (l : List Held) : (sizesB a b c && decide ((l.length : Int) ≤ b) && ck2 a c l [] l) = checkB a b c l := by
  rw [Bool.eq_iff_iff, check_iff]
  simp only [Bool.and_eq_true, decide_eq_true_eq, and_assoc]
  rw [ck2_iff]
  constructor
  · rintro ⟨h1, h2, h3, h4, _, h5⟩
    exact ⟨h1, h2, h3, h4, h5⟩
  · rintro ⟨h1, h2, h3⟩
    exact ⟨h1, h2, h3.ent, h3.cnt, by simp, h3.rel⟩
end Go.AM.Q
