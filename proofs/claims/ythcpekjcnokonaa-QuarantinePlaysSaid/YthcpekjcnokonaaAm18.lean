/- The operations of a region are carried out: in the order of the text. -/
import Derived.Test.YthcpekjcnokonaaAm17
set_option linter.unusedVariables false
set_option linter.unusedSimpArgs false
namespace Go.AM
open Go.RowKit

def addFps (base : Nat) : List (Nat × Eff) → List FP → List FP
  | [], acc => acc
  | (i, e) :: r, acc => addFps base r (⟨i, e.N, e.u.writes (base + i)⟩ :: acc)

section
variable {P : Program} {T : Nat → Option CSpec} {ops : List Oper} {base : Nat}

theorem tset_seq {s : St} {d : Nat} {v : AV} (h : look d s.t = some v) : SEq { s with t := tset d v s.t } s :=
  ⟨fun k => by
    simp only [look_tset]
    by_cases e : k = d
    · rw [if_pos e, e, h]
    · rw [if_neg e], fun _ => rfl, rfl, rfl⟩

theorem evOps_chain : ∀ (l : List Oper) (i : Nat) (s : St) (fps : List FP) (K : St → List FP → Prop), l = ops.drop i → evOps P T ops base l i s fps K →
    ∃ es s', K s' (addFps base es fps) ∧ Chain P T ops base es s s' ∧ es.map (·.1) = List.range' i l.length
  | [], i, s, fps, K, _, h => ⟨[], s, h, .refl s, rfl⟩
  | o :: r, i, s, fps, K, hl, h => by
    have ho : ops[i]? = some o := by
      have : (ops.drop i)[0]? = some o := by rw [← hl]; rfl
      rw [List.getElem?_drop] at this
      simpa using this
    have hr : r = ops.drop (i + 1) := by
      have : ops.drop (i + 1) = (ops.drop i).drop 1 := by rw [List.drop_drop]
      rw [this, ← hl]; rfl
    have hdst : dstAt ops i = o.dst := by simp [dstAt, ho]
    unfold evOps at h
    dsimp only at h
    obtain ⟨hd, h⟩ := bif_elim h
    have runs : ∀ (s1 : St), SEq s1 s → dstOk o.dst s1.m = true → wantedAV ops o s1.t = some true →
        (stepK P T o (base + i) (evR (opR o) s1.t) (restr (needN o s1.t s1.σ) s1.σ) fun v u =>
          evOps P T ops base r (i + 1) { s1 with t := putT o.dst v s1.t, σ := u.apply (base + i) s1.σ } (⟨i, needN o s1.t s1.σ, u.writes (base + i)⟩ :: fps) K) →
        ∃ es s', K s' (addFps base es fps) ∧ Chain P T ops base es s s' ∧ es.map (·.1) = List.range' i (o :: r).length := by
      intro s1 hs1 hd1 hw h
      obtain ⟨v, u, h1, h2⟩ := stepK_pick h
      obtain ⟨es, s', g1, g2, g3⟩ := evOps_chain r (i + 1) _ _ K hr h1
      refine ⟨(i, ⟨v, u, needN o s1.t s1.σ, true⟩) :: es, s', g1, Chain_congr hs1 ⟨⟨o, ho, hd1, .inl ⟨rfl, hw, h2⟩⟩, ?_⟩, by simp [g3, List.range'_succ]⟩
      have : applyE ops base i ⟨v, u, needN o s1.t s1.σ, true⟩ s1 = { s1 with t := putT o.dst v s1.t, σ := u.apply (base + i) s1.σ } := by simp [applyE, hdst]
      rw [this]
      exact g2
    split at h
    · rename_i hg
      exact runs s (.refl s) hd (by simp [wantedAV, hg]) h
    · rename_i gg hg
      split at h
      · rename_i d want hgt
        split at h
        · rename_i x hx
          have both : ∀ b, x = b → (bif b == want then
              (stepK P T o (base + i) (evR (opR o) (tset d (.b b) s.t)) (restr (needN o (tset d (.b b) s.t) s.σ) s.σ) fun v u =>
                evOps P T ops base r (i + 1) { s with t := putT o.dst v (tset d (.b b) s.t), σ := u.apply (base + i) s.σ } (⟨i, needN o (tset d (.b b) s.t) s.σ, u.writes (base + i)⟩ :: fps) K)
              else evOps P T ops base r (i + 1) { s with t := putT o.dst (.tup []) (tset d (.b b) s.t) } (⟨i, [], []⟩ :: fps) K) →
              ∃ es s', K s' (addFps base es fps) ∧ Chain P T ops base es s s' ∧ es.map (·.1) = List.range' i (o :: r).length := by
            intro b hb hh
            subst hb
            have hseq := tset_seq hx
            have hwant : wantedAV ops o (tset d (.b x) s.t) = some (x == want) := by
              simp only [wantedAV, hg, hgt, look_tset, if_pos]
            cases hbw : (x == want) with
            | true =>
              rw [hbw] at hh
              exact runs { s with t := tset d (.b x) s.t } hseq hd (by rw [hwant, hbw]) hh
            | false =>
              rw [hbw] at hh
              simp only [cond_false] at hh
              obtain ⟨es, s', g1, g2, g3⟩ := evOps_chain r (i + 1) _ _ K hr hh
              refine ⟨(i, ⟨.tup [], .none, [], false⟩) :: es, s', g1, Chain_congr hseq ⟨⟨o, ho, hd, .inr ⟨rfl, by rw [hwant, hbw], rfl, rfl, rfl⟩⟩, ?_⟩, by simp [g3, List.range'_succ]⟩
              have : applyE ops base i ⟨.tup [], .none, [], false⟩ { s with t := tset d (.b x) s.t } = { s with t := putT o.dst (.tup []) (tset d (.b x) s.t) } := by simp [applyE, hdst, Upd.apply]
              rw [this]
              exact g2
          rcases brP_elim h with ⟨e, h⟩ | ⟨e, h⟩
          · exact both true e h
          · exact both false e h
        · rename_i hx
          obtain ⟨es, s', g1, g2, g3⟩ := evOps_chain r (i + 1) _ _ K hr h
          refine ⟨(i, ⟨.tup [], .none, [], false⟩) :: es, s', g1, ⟨⟨o, ho, hd, .inr ⟨rfl, by simp [wantedAV, hg, hgt, hx], rfl, rfl, rfl⟩⟩, ?_⟩, by simp [g3, List.range'_succ]⟩
          have : applyE ops base i ⟨.tup [], .none, [], false⟩ s = { s with t := putT o.dst (.tup []) s.t } := by simp [applyE, hdst, Upd.apply]
          rw [this]
          exact g2
        · exact h.elim
      · exact h.elim

/-! ### What holds of the machine's state -/
structure Holds (w : World) (β : Beta) (ok : Nat → Prop) (s : St) (a : Act) : Prop where
  len : β.length = s.n
  size : a.tmps.size = s.m
  tm : ∀ k v, look k s.t = some v → ARep w β ok v (a.tmps.getD k undef)
  mem : Mem w β ok s.σ

theorem Holds.congr {w : World} {β : Beta} {ok : Nat → Prop} {s s' : St} {a : Act} (h : Holds w β ok s a) (e : SEq s s') : Holds w β ok s' a where
  len := h.len.trans e.n
  size := h.size.trans e.m
  tm := fun k v hk => h.tm k v ((e.t k).trans hk)
  mem := ⟨fun n c hc => h.mem.blks n c ((e.σ n).trans hc), fun n m c d g hnm h1 h2 => h.mem.inj n m c d g hnm ((e.σ n).trans h1) ((e.σ m).trans h2), fun n c g hc => h.mem.ro n c g ((e.σ n).trans hc), h.mem.oklt⟩

/-- From one state of memory to a later one. -/
structure Onw (w : World) (β : Beta) (ok : Nat → Prop) (σ : Heap) (w' : World) (β' : Beta) (ok' : Nat → Prop) (σ' : Heap) : Prop where
  ext : BExt β β'
  okm : ∀ g, ok g → ok' g
  fr : Fr (live β σ) w w'
  lv : ∀ g, live β' σ' g → live β σ g ∨ w.heap.size ≤ g
  okn : ∀ g, ok' g → ok g ∨ live β σ g ∨ w.heap.size ≤ g
theorem Onw.refl (w : World) (β : Beta) (ok : Nat → Prop) (σ : Heap) : Onw w β ok σ w β ok σ := ⟨.refl _, fun _ h => h, .refl _ _, fun _ h => .inl h, fun _ h => .inl h⟩
theorem Onw.trans {w w1 w2 : World} {β β1 β2 : Beta} {ok ok1 ok2 : Nat → Prop} {σ σ1 σ2 : Heap} (h : Onw w β ok σ w1 β1 ok1 σ1) (k : Onw w1 β1 ok1 σ1 w2 β2 ok2 σ2) : Onw w β ok σ w2 β2 ok2 σ2 := by
  have hs := h.fr.size
  refine ⟨h.ext.trans k.ext, fun g hg => k.okm g (h.okm g hg), h.fr.trans k.fr h.lv, fun g hg => ?_, fun g hg => ?_⟩
  · rcases k.lv g hg with h1 | h1
    · exact h.lv g h1
    · exact .inr (by omega)
  · rcases k.okn g hg with h1 | h1 | h1
    · exact h.okn g h1
    · exact .inr (h.lv g h1)
    · exact .inr (.inr (by omega))
theorem Onw.σ_congr {w w' : World} {β β' : Beta} {ok ok' : Nat → Prop} {σ σ' σ'' : Heap} (h : Onw w β ok σ w' β' ok' σ') (e : ∀ n, look n σ' = look n σ'') : Onw w β ok σ w' β' ok' σ'' :=
  ⟨h.ext, h.okm, h.fr, fun g ⟨n, c, h1, h2⟩ => h.lv g ⟨n, c, (e n).trans h1, h2⟩, h.okn⟩

theorem getD_put {a : Act} {d k : Nat} {x : Value} (hd : d < a.tmps.size) : (a.put (some d) x).tmps.getD k undef = if k = d then x else a.tmps.getD k undef := by
  simp only [Act.put, Array.getD_eq_getD_getElem?, Array.getElem?_setIfInBounds]
  by_cases h : d = k
  · subst h; simp [hd]
  · simp [h, Ne.symm h]
theorem size_put {a : Act} {d : Option Nat} {x : Value} : (a.put d x).tmps.size = a.tmps.size := by
  cases d <;> simp [Act.put]
theorem defers_put {a : Act} {d : Option Nat} {x : Value} : (a.put d x).defers = a.defers := by
  cases d <;> rfl

theorem evR_rep {w : World} {β : Beta} {ok : Nat → Prop} {s : St} {a : Act} (h : Holds w β ok s a) (R : List Nat) : ∀ x v, evR R s.t x = some v → ARep w β ok v (a.eval x) := by
  intro x v hx
  cases x with
  | tmp k =>
    simp only [evR] at hx
    cases hb : memN k R with
    | true => rw [hb] at hx; exact h.tm k v hx
    | false => rw [hb] at hx; simp at hx
  | const c => exact .p (ofConst_rep hx).1
  | func f =>
    simp only [evR, Option.some.injEq] at hx
    subst hx
    exact .p (.fn rfl rfl (fun j a v ha => by simp at ha) (fun j a v ha => by simp at ha))
  | global g => simp [evR] at hx

theorem wanted_of {w : World} {β : Beta} {ok : Nat → Prop} {s : St} {a : Act} {opsA : Array Oper} {o : Oper} {b : Bool} (h : Holds w β ok s a) (hops : ops = opsA.toList) (hw : wantedAV ops o s.t = some b) :
    Region.wanted o (yielded opsA a.tmps) = b := by
  unfold wantedAV at hw
  unfold Region.wanted
  cases hg : o.guard with
  | none => rw [hg] at hw; simpa using hw
  | some p =>
    obtain ⟨j, want⟩ := p
    rw [hg] at hw
    simp only at hw ⊢
    unfold guardT at hw
    rw [hg] at hw
    simp only at hw
    split at hw
    · rename_i d want' hd
      split at hd
      · rename_i q hq
        obtain ⟨d', hd', e⟩ := Option.map_eq_some_iff.1 hd
        simp only [Prod.mk.injEq] at e
        obtain ⟨rfl, rfl⟩ := e
        split at hw
        · rename_i x hx
          have hrep := rep_bool (h.tm d' _ hx)
          have hy : yielded opsA a.tmps j = some x := by
            unfold yielded
            have : opsA[j]? = some q := by rw [hops] at hq; simpa using hq
            rw [this]
            simp only [Option.bind_some, hd']
            cases ht : a.tmps[d']? with
            | none =>
              rw [Array.getD_eq_getD_getElem?, ht] at hrep
              simp [undef] at hrep
            | some y =>
              rw [Array.getD_eq_getD_getElem?, ht] at hrep
              simp only [Option.getD_some] at hrep
              rw [hrep]
          rw [hy]
          injection hw with hw
        · rename_i hx
          injection hw with hw
          subst hw
          obtain ⟨V, hV, hR⟩ := rep_tup (h.tm d' _ hx)
          have hV0 : V = #[] := by
            have := hR.1
            simp at this
            exact Array.eq_empty_of_size_eq_zero this.symm
          subst hV0
          have hy : yielded opsA a.tmps j = none := by
            unfold yielded
            have : opsA[j]? = some q := by rw [hops] at hq; simpa using hq
            rw [this]
            simp only [Option.bind_some, hd']
            cases ht : a.tmps[d']? with
            | none => rfl
            | some y =>
              rw [Array.getD_eq_getD_getElem?, ht] at hV
              simp only [Option.getD_some] at hV
              rw [hV]
          rw [hy]
          rfl
        · simp at hw
      · simp at hd
    · simp at hw

/-- The names that are kept for the operations that are still to come. -/
def Res (β : Beta) (base : Nat) (L : List (Nat × Eff)) : Prop := ∀ p ∈ L, β[base + p.1]? = some none

theorem chain_step {w : World} {β : Beta} {ok : Nat → Prop} {s : St} {a : Act} {opsA : Array Oper} {i : Nat} {e : Eff} {L : List (Nat × Eff)} {Q : Exit → Act → World → Prop} {next : Act → World → Prop}
    (hops : ops = opsA.toList) (h : Holds w β ok s a) (hres : Res β base ((i, e) :: L)) (hnd : i ∉ L.map (·.1)) (hst : OStep P T ops base i s e)
    (hnext : ∀ a' w' β' ok', Holds w' β' ok' (applyE ops base i e s) a' → Res β' base L → Onw w β ok s.σ w' β' ok' (applyE ops base i e s).σ → a'.defers = a.defers → next a' w') : wpOp P opsA Q i next a w := by
  obtain ⟨o, ho, hd, hcase⟩ := hst
  have hoA : opsA[i]? = some o := by rw [hops] at ho; simpa using ho
  have hdst : dstAt ops i = o.dst := by simp [dstAt, ho]
  have hresL : ∀ p ∈ L, β[base + p.1]? = some none := fun p hp => hres p (List.mem_cons_of_mem _ hp)
  have tmps : ∀ (w' : World) (β' : Beta) (ok' : Nat → Prop) (v : AV) (x : Value), (∀ k q y, look k s.t = some q → ARep w β ok q y → ARep w' β' ok' q y) → ARep w' β' ok' v x →
      ∀ k q, look k (putT o.dst v s.t) = some q → ARep w' β' ok' q ((a.put o.dst x).tmps.getD k undef) := by
    intro w' β' ok' v x hold hv k q hk
    rw [look_putT] at hk
    cases hdd : o.dst with
    | none =>
      rw [hdd] at hk
      simp at hk
      exact hold k q _ hk (h.tm k q hk)
    | some d =>
      rw [hdd] at hk hd
      have hlt : d < a.tmps.size := by rw [h.size]; exact Nat.le_of_ble_eq_true hd
      rw [getD_put hlt]
      by_cases e1 : k = d
      · subst e1
        simp at hk
        subst hk
        simpa using hv
      · rw [if_neg (by simpa using e1)] at hk
        rw [if_neg e1]
        exact hold k q _ hk (h.tm k q hk)
  unfold wpOp
  simp only [hoA]
  rcases hcase with ⟨_, hw, hk⟩ | ⟨_, hw, hv, hu, hN⟩
  · rw [wanted_of h hops hw]
    simp only [if_true]
    left
    have hsit : Sit w β ok s.σ (base + i) a (evR (opR o) s.t) (restr e.N s.σ) := ⟨h.mem, evR_rep h _, fun n c hc => by
      unfold restr at hc
      cases hb : memN n e.N with
      | true => rw [hb] at hc; exact hc
      | false => rw [hb] at hc; simp at hc, hres (i, e) (by simp)⟩
    refine step_sound hsit hk ?_
    rintro v u x w' β' ok' ⟨rfl, rfl⟩ hrep hop
    have hON : Onw w β ok s.σ w' β' ok' (e.u.apply (base + i) s.σ) := ⟨hop.ext, hop.okm, hop.fr, hop.lv, hop.okn⟩
    refine hnext _ w' β' ok' ⟨?_, ?_, ?_, ?_⟩ ?_ ?_ defers_put
    · rw [hop.len]; exact h.len
    · rw [size_put]; exact h.size
    · simp only [applyE, hdst]
      exact tmps w' β' ok' e.v x (fun k q y _ hq => hop.arep h.mem hq) hrep
    · exact hop.mem
    · intro p hp
      refine hop.res _ ?_ (hresL p hp)
      intro hh
      have : p.1 = i := by omega
      exact hnd (this ▸ List.mem_map.2 ⟨p, hp, rfl⟩)
    · exact hON
  · rw [wanted_of h hops hw]
    simp only [Bool.false_eq_true, if_false]
    have happ : applyE ops base i e s = { s with t := putT o.dst (.tup []) s.t } := by simp [applyE, hdst, hv, hu, Upd.apply]
    refine hnext _ w β ok ?_ hresL ?_ defers_put
    · rw [happ]
      exact ⟨h.len, by rw [size_put]; exact h.size, tmps w β ok (.tup []) undef (fun k q y _ hq => hq) (.tup rfl (fun j a x h => by simp at h)), h.mem⟩
    · rw [happ]
      exact .refl _ _ _ _

theorem chain_ops {opsA : Array Oper} {Q : Exit → Act → World → Prop} (hops : ops = opsA.toList) : ∀ (L : List (Nat × Eff)) {w : World} {β : Beta} {ok : Nat → Prop} {s s' : St} {a : Act}, Chain P T ops base L s s' →
    Holds w β ok s a → Res β base L → (L.map (·.1)).Nodup →
    (∀ a' w' β' ok', Holds w' β' ok' s' a' → Onw w β ok s.σ w' β' ok' s'.σ → a'.defers = a.defers → Q .normal a' w') → wpOps P opsA Q (L.map (·.1)) a w
  | [], w, β, ok, s, s', a, hc, h, _, _, hq => by
    simp only [List.map_nil, wpOps]
    exact hq a w β ok (h.congr hc) ((Onw.refl w β ok s.σ).σ_congr hc.σ) rfl
  | (i, e) :: L, w, β, ok, s, s', a, hc, h, hres, hnd, hq => by
    simp only [List.map_cons] at hnd ⊢
    rw [wpOps_cons]
    refine chain_step hops h hres (List.nodup_cons.1 hnd).1 hc.1 ?_
    intro a' w' β' ok' h' hres' hon hdef
    exact chain_ops hops L hc.2 h' hres' (List.nodup_cons.1 hnd).2 (fun a2 w2 β2 ok2 h2 on2 d2 => hq a2 w2 β2 ok2 h2 (hon.trans on2) (d2.trans hdef))
end
end Go.AM
