/- The operations of a region are carried out: in any order that the edges allow. -/
import Derived.Test.YthcpekjcnokonaaAm18
set_option linter.unusedVariables false
set_option linter.unusedSimpArgs false
namespace Go.AM
open Go.RowKit

/-- Of each operation, as the bits of a number, those that come before it whatever the order. -/
def maskOf (es : List Edge) (ms : List Nat) : Nat :=
  match es with
  | [] => 0
  | e :: r => bif Region.binds .any e then (2 ^ e.on ||| ms.getD e.on 0) ||| maskOf r ms else maskOf r ms
def masks : List Oper → List Nat → List Nat
  | [], ms => ms
  | o :: r, ms => masks r (ms ++ [maskOf o.after.toList ms])
def edgesBack : List Oper → Nat → Bool
  | [], _ => true
  | o :: r, i => o.after.toList.all (fun e => !Region.binds .any e || Nat.blt e.on i) && edgesBack r (i + 1)

def disjN (a b : List Nat) : Bool := a.all fun n => !memN n b
def indepB (ops : List Oper) (p q : FP) : Bool :=
  disjN p.W q.N && (disjN q.W p.N && (disjN p.W q.W &&
    ((match dstAt ops p.i with | some d => !memN d (readT ops q.i) && (match dstAt ops q.i with | some d' => !Nat.beq d d' | none => true) | none => true) &&
     (match dstAt ops q.i with | some d => !memN d (readT ops p.i) | none => true))))
/-- fps: the later ones first. -/
def pairsOk (ops : List Oper) (ms : List Nat) : List FP → Bool
  | [] => true
  | p :: r => r.all (fun q => (ms.getD p.i 0).testBit q.i || indepB ops p q) && pairsOk ops ms r
def drawOk (P : Program) (ops : List Oper) (fps : List FP) : Bool := P.follows .mixedOrders && (edgesBack ops 0 && pairsOk ops (masks ops []) fps)

theorem disjN_spec {a b : List Nat} (h : disjN a b = true) : ∀ n ∈ a, n ∉ b := by
  intro n hn hb
  have := List.all_eq_true.1 h n hn
  rw [memN_iff.2 hb] at this
  simp at this

section
variable {P : Program} {T : Nat → Option CSpec} {ops : List Oper} {base : Nat}

theorem indepB_spec {i j : Nat} {e f : Eff} (h : indepB ops ⟨i, e.N, e.u.writes (base + i)⟩ ⟨j, f.N, f.u.writes (base + j)⟩ = true) : Indep ops base i e j f := by
  unfold indepB at h
  simp only [Bool.and_eq_true] at h
  obtain ⟨h1, h2, h3, h4, h5⟩ := h
  refine ⟨fun d hd hm => ?_, fun d hd hm => ?_, fun d hd hd' => ?_, disjN_spec h1, disjN_spec h2, disjN_spec h3⟩
  · rw [hd] at h4
    simp only [Bool.and_eq_true, Bool.not_eq_true'] at h4
    rw [memN_iff.2 hm] at h4
    simp at h4
  · rw [hd] at h5
    simp only [Bool.not_eq_true'] at h5
    rw [memN_iff.2 hm] at h5
    simp at h5
  · rw [hd, hd'] at h4
    simp only [Bool.and_eq_true, Bool.not_eq_true', Nat.beq_refl] at h4
    simp at h4

theorem masks_length : ∀ (l : List Oper) (ms : List Nat), (masks l ms).length = ms.length + l.length
  | [], ms => rfl
  | o :: r, ms => by simp [masks, masks_length r]; omega
theorem masks_take : ∀ (l : List Oper) (ms : List Nat) (k : Nat), k ≤ ms.length → (masks l ms).take k = ms.take k
  | [], ms, k, h => rfl
  | o :: r, ms, k, h => by
    simp only [masks]
    rw [masks_take r _ k (by simp; omega), List.take_append_of_le_length h]
theorem masks_get : ∀ (l : List Oper) (ms : List Nat) (k : Nat) (o : Oper), l[k]? = some o → (masks l ms)[ms.length + k]? = some (maskOf o.after.toList ((masks l ms).take (ms.length + k)))
  | [], ms, k, o, h => by simp at h
  | o' :: r, ms, 0, o, h => by
    simp at h
    subst h
    simp only [masks, Nat.add_zero]
    have h1 := masks_take r (ms ++ [maskOf o'.after.toList ms]) (ms.length + 1) (by simp)
    have h2 := masks_take r (ms ++ [maskOf o'.after.toList ms]) ms.length (by simp)
    rw [h2, List.take_left]
    have h3 : ((masks r (ms ++ [maskOf o'.after.toList ms])).take (ms.length + 1))[ms.length]? = some (maskOf o'.after.toList ms) := by
      rw [h1, List.take_of_length_le (by simp)]
      simp
    rw [List.getElem?_take, if_pos (by omega)] at h3
    exact h3
  | o' :: r, ms, k + 1, o, h => by
    have := masks_get r (ms ++ [maskOf o'.after.toList ms]) k o (by simpa using h)
    simp only [masks]
    simp only [List.length_append, List.length_singleton] at this
    rw [show ms.length + (k + 1) = ms.length + 1 + k by omega]
    exact this

theorem maskOf_bit {ms : List Nat} {y : Nat} : ∀ (es : List Edge), (maskOf es ms).testBit y = true → ∃ e ∈ es, Region.binds .any e = true ∧ (e.on = y ∨ (ms.getD e.on 0).testBit y = true)
  | [], h => by simp [maskOf] at h
  | e :: r, h => by
    unfold maskOf at h
    cases hb : Region.binds .any e with
    | true =>
      rw [hb] at h
      simp only [cond_true, Nat.testBit_or, Bool.or_eq_true] at h
      rcases h with (h | h) | h
      · rw [Nat.testBit_two_pow] at h
        exact ⟨e, by simp, hb, .inl (by simpa using h)⟩
      · exact ⟨e, by simp, hb, .inr h⟩
      · obtain ⟨e', h1, h2, h3⟩ := maskOf_bit r h
        exact ⟨e', List.mem_cons_of_mem _ h1, h2, h3⟩
    | false =>
      rw [hb] at h
      obtain ⟨e', h1, h2, h3⟩ := maskOf_bit r h
      exact ⟨e', List.mem_cons_of_mem _ h1, h2, h3⟩

/-- Where all that a listed operation waits for is listed: what comes before it whatever the order is listed. -/
theorem mask_listed {listed : Nat → Bool} (hcl : ∀ i o, ops[i]? = some o → listed i = true → ∀ e ∈ o.after.toList, Region.binds .any e = true → listed e.on = true) :
    ∀ (n i : Nat) (o : Oper) (y : Nat), i ≤ n → ops[i]? = some o → (∀ e ∈ o.after.toList, Region.binds .any e = true → listed e.on = true) → ((masks ops []).getD i 0).testBit y = true → listed y = true := by
  intro n
  induction n with
  | zero =>
    intro i o y hi ho hed hb
    have hi0 : i = 0 := by omega
    subst hi0
    have hm := masks_get ops [] 0 o ho
    simp only [List.length_nil, Nat.add_zero, List.take_zero] at hm
    rw [List.getD_eq_getElem?_getD, hm] at hb
    obtain ⟨e, h1, h2, h3⟩ := maskOf_bit _ hb
    rcases h3 with h3 | h3
    · rw [← h3]; exact hed e h1 h2
    · simp at h3
  | succ n ih =>
    intro i o y hi ho hed hb
    have hm := masks_get ops [] i o ho
    simp only [List.length_nil, Nat.zero_add] at hm
    rw [List.getD_eq_getElem?_getD, hm] at hb
    obtain ⟨e, h1, h2, h3⟩ := maskOf_bit _ hb
    have hle := hed e h1 h2
    rcases h3 with h3 | h3
    · rw [← h3]; exact hle
    · by_cases hlt : e.on < i
      · have heq : ((masks ops []).take i).getD e.on 0 = (masks ops []).getD e.on 0 := by
          rw [List.getD_eq_getElem?_getD, List.getD_eq_getElem?_getD, List.getElem?_take, if_pos hlt]
        rw [heq] at h3
        have hil := (List.getElem?_eq_some_iff.1 ho).1
        have ho' : ops[e.on]? = some ops[e.on] := List.getElem?_eq_getElem (by omega)
        exact ih e.on _ y (by omega) ho' (hcl e.on _ ho' hle) h3
      · rw [List.getD_eq_getElem?_getD, List.getElem?_take, if_neg hlt] at h3
        simp at h3

theorem edgesBack_spec : ∀ (l : List Oper) (k : Nat), edgesBack l k = true → ∀ (i : Nat) (o : Oper), l[i]? = some o → ∀ e ∈ o.after.toList, Region.binds .any e = true → e.on < k + i
  | [], k, _, i, o, h => by simp at h
  | o' :: r, k, hb, i, o, h => by
    unfold edgesBack at hb
    rw [Bool.and_eq_true] at hb
    cases i with
    | zero =>
      simp at h
      subst h
      intro e he hbd
      have := List.all_eq_true.1 hb.1 e he
      rw [hbd] at this
      simp only [Bool.not_true, Bool.false_or] at this
      exact Nat.le_of_ble_eq_true this
    | succ i =>
      intro e he hbd
      have := edgesBack_spec r (k + 1) hb.2 i o (by simpa using h) e he hbd
      omega

def PairR (ops : List Oper) (base : Nat) (p q : Nat × Eff) : Prop := ((masks ops []).getD q.1 0).testBit p.1 = true ∨ Indep ops base q.1 q.2 p.1 p.2

theorem pairs_of : ∀ (L : List (Nat × Eff)) (acc : List FP), pairsOk ops (masks ops []) (addFps base L acc) = true →
    L.Pairwise (PairR ops base) ∧ (∀ q ∈ L, ∀ p ∈ acc, ((masks ops []).getD q.1 0).testBit p.i = true ∨ indepB ops ⟨q.1, q.2.N, q.2.u.writes (base + q.1)⟩ p = true) ∧ pairsOk ops (masks ops []) acc = true
  | [], acc, h => ⟨.nil, by simp, h⟩
  | (i, e) :: r, acc, h => by
    obtain ⟨h1, h2, h3⟩ := pairs_of r _ h
    unfold pairsOk at h3
    rw [Bool.and_eq_true] at h3
    refine ⟨List.Pairwise.cons (fun q hq => ?_) h1, ?_, h3.2⟩
    · rcases h2 q hq ⟨i, e.N, e.u.writes (base + i)⟩ (by simp) with h4 | h4
      · exact .inl h4
      · exact .inr (indepB_spec h4)
    · intro q hq p hp
      rcases List.mem_cons.1 hq with e1 | hq
      · subst e1
        have := List.all_eq_true.1 h3.1 p hp
        rwa [Bool.or_eq_true] at this
      · exact h2 q hq p (List.mem_cons_of_mem _ hp)

theorem chain_any {opsA : Array Oper} {Q : Exit → Act → World → Prop} (hops : ops = opsA.toList) (hback : edgesBack ops 0 = true) : ∀ (fuel : Nat) (L : List (Nat × Eff)) (listed : Array Bool) {w : World} {β : Beta} {ok : Nat → Prop} {s s' : St} {a : Act},
    Chain P T ops base L s s' → Holds w β ok s a → Res β base L → (L.map (·.1)).Pairwise (· < ·) → L.Pairwise (PairR ops base) → listed.size = opsA.size → (∀ i, i < opsA.size → (listed.getD i true = false ↔ i ∈ L.map (·.1))) → (∀ i ∈ L.map (·.1), i < opsA.size) →
    (∀ i o, ops[i]? = some o → listed.getD i true = true → ∀ e ∈ o.after.toList, Region.binds .any e = true → listed.getD e.on true = true) → L.length ≤ fuel →
    (∀ a' w' β' ok', Holds w' β' ok' s' a' → Onw w β ok s.σ w' β' ok' s'.σ → a'.defers = a.defers → Q .normal a' w') → wpAny P .any opsA Q fuel listed a w := by
  intro fuel
  induction fuel with
  | zero =>
    intro L listed w β ok s s' a hc h hres hlt hpair hsz hlist hin hcl hle hq
    have hL : L = [] := List.eq_nil_of_length_eq_zero (by omega)
    subst hL
    refine ⟨?_, hq a w β ok (h.congr hc) ((Onw.refl w β ok s.σ).σ_congr hc.σ) rfl⟩
    apply List.eq_nil_iff_forall_not_mem.2
    intro j hj
    obtain ⟨j1, j2, _⟩ := mem_ready.1 hj
    have hlt' : j < opsA.size := by
      rcases Nat.lt_or_ge j listed.size with h' | h'
      · omega
      · simp [Array.getElem?_eq_none h'] at j1
    have := (hlist j hlt').1 j1
    simp at this
  | succ fuel ih =>
    intro L listed w β ok s s' a hc h hres hlt hpair hsz hlist hin hcl hle hq
    have getD_in : ∀ j, j < opsA.size → listed.getD j true = true → listed.getD j false = true := by
      intro j hj hh
      have hj' : j < listed.size := by omega
      simp only [Array.getD_eq_getD_getElem?, Array.getElem?_eq_getElem hj', Option.getD_some] at hh ⊢
      exact hh
    refine ⟨fun hr => ?_, fun i hi => ?_⟩
    · cases L with
      | nil => exact hq a w β ok (h.congr hc) ((Onw.refl w β ok s.σ).σ_congr hc.σ) rfl
      | cons p r =>
        obtain ⟨i, e⟩ := p
        exfalso
        obtain ⟨o, ho, _⟩ := hc.1
        have hil : i < opsA.size := hin i (by simp)
        have hoA : opsA[i]? = some o := by rw [hops] at ho; simpa using ho
        have : i ∈ Region.ready .any opsA listed := by
          refine mem_ready.2 ⟨(hlist i hil).2 (by simp), o, hoA, fun ed hed hb => ?_⟩
          have hbk := edgesBack_spec ops 0 hback i o ho ed (by simpa using hed) hb
          have hol : ed.on < opsA.size := by omega
          refine getD_in _ hol ?_
          cases hl : listed.getD ed.on true with
          | true => rfl
          | false =>
            have := (hlist ed.on hol).1 hl
            simp only [List.map_cons, List.mem_cons] at this
            rcases this with e1 | e1
            · omega
            · have h9 : i < ed.on := List.rel_of_pairwise_cons hlt e1
              omega
        rw [hr] at this
        simp at this
    · obtain ⟨j1, o, hoA, hed⟩ := mem_ready.1 hi
      have hil : i < opsA.size := (Array.getElem?_eq_some_iff.1 hoA).1
      have ho : ops[i]? = some o := by rw [hops]; simpa using hoA
      obtain ⟨pe, hpe, hpi⟩ := List.mem_map.1 ((hlist i hil).1 j1)
      obtain ⟨i', e⟩ := pe
      simp only at hpi
      subst hpi
      obtain ⟨L1, L2, rfl⟩ := List.append_of_mem hpe
      have hed' : ∀ ed ∈ o.after.toList, Region.binds .any ed = true → listed.getD ed.on true = true := by
        intro ed h1 h2
        have := hed ed (by simpa using h1) h2
        rcases Nat.lt_or_ge ed.on listed.size with h' | h'
        · simp only [Array.getD_eq_getD_getElem?, Array.getElem?_eq_getElem h', Option.getD_some] at this ⊢
          exact this
        · simp [Array.getElem?_eq_none h'] at this
      have hind : ∀ p ∈ L1, Indep ops base i' e p.1 p.2 := by
        intro p hp
        have hpr : PairR ops base p (i', e) := (List.pairwise_append.1 hpair).2.2 p hp _ (by simp)
        rcases hpr with h1 | h1
        · exfalso
          have hl := mask_listed (ops := ops) (listed := fun j => listed.getD j true) hcl i' i' o p.1 (Nat.le_refl _) ho hed' h1
          have hpm : p.1 ∈ (L1 ++ (i', e) :: L2).map (·.1) := List.mem_map.2 ⟨p, List.mem_append_left _ hp, rfl⟩
          have := (hlist p.1 (hin p.1 hpm)).2 hpm
          rw [this] at hl
          simp at hl
        · exact h1
      have hch := Chain_first L1 s hind hc
      have hperm : ∀ p, p ∈ L1 ++ L2 → p ∈ L1 ++ (i', e) :: L2 := by
        intro p hp
        rcases List.mem_append.1 hp with hp | hp
        · exact List.mem_append_left _ hp
        · exact List.mem_append_right _ (List.mem_cons_of_mem _ hp)
      have hsub : (L1 ++ L2).Sublist (L1 ++ (i', e) :: L2) := List.Sublist.append_left (List.sublist_cons_self _ _) L1
      have hnd : i' ∉ (L1 ++ L2).map (·.1) := by
        have hnd0 : ((L1 ++ (i', e) :: L2).map (·.1)).Nodup := hlt.imp (fun h => by omega)
        rw [List.map_append, List.map_cons, List.nodup_append] at hnd0
        rw [List.map_append, List.mem_append]
        rintro (h1 | h1)
        · exact hnd0.2.2 i' h1 i' (by simp) rfl
        · exact (List.nodup_cons.1 hnd0.2.1).1 h1
      refine chain_step hops h (L := L1 ++ L2) (fun p hp => ?_) hnd hch.1 ?_
      · rcases List.mem_cons.1 hp with e1 | hp
        · subst e1; exact hres _ (by simp)
        · exact hres p (hperm p hp)
      · intro a' w' β' ok' h' hres' hon hdef
        have hset : ∀ j, j < opsA.size → ((listed.setIfInBounds i' true).getD j true = false ↔ j ∈ (L1 ++ L2).map (·.1)) := by
          intro j hj
          by_cases e1 : i' = j
          · subst e1
            have : (listed.setIfInBounds i' true).getD i' true = true := by simp [show i' < listed.size by omega]
            rw [this]
            simp only [Bool.true_eq_false, false_iff]
            exact hnd
          · rw [getD_set_ne true e1, hlist j hj]
            simp only [List.map_append, List.map_cons, List.mem_append, List.mem_cons]
            constructor
            · rintro (h1 | h1 | h1)
              · exact .inl h1
              · exact absurd h1.symm e1
              · exact .inr h1
            · rintro (h1 | h1)
              · exact .inl h1
              · exact .inr (.inr h1)
        refine ih (L1 ++ L2) _ hch.2 h' hres' (hlt.sublist (hsub.map _)) (hpair.sublist hsub) (by simpa using hsz) hset (fun j hj => ?_) ?_ (by simp at hle ⊢; omega) (fun a2 w2 β2 ok2 h2 on2 d2 => hq a2 w2 β2 ok2 h2 (hon.trans on2) (d2.trans hdef))
        · obtain ⟨p, hp, e1⟩ := List.mem_map.1 hj
          exact hin j (List.mem_map.2 ⟨p, hperm p hp, e1⟩)
        · intro j oj hoj hl ed h1 h2
          have keep : listed.getD ed.on true = true → (listed.setIfInBounds i' true).getD ed.on true = true := by
            intro hh
            by_cases e1 : i' = ed.on
            · subst e1; simp [show ed.on < listed.size by omega]
            · rw [getD_set_ne true e1]; exact hh
          by_cases e1 : i' = j
          · subst e1
            rw [ho] at hoj
            injection hoj with hoj
            subst hoj
            exact keep (hed' ed h1 h2)
          · rw [getD_set_ne true e1] at hl
            exact keep (hcl j oj hoj hl ed h1 h2)
end
end Go.AM
