/- The evaluation is sound; a function's contract out of its evaluation. -/
import Derived.Test.YthcpekjcnokonaaAm20
set_option linter.unusedVariables false
set_option linter.unusedSimpArgs false
namespace Go.AM
open Go.RowKit
section
variable {P : Program} {T : Nat → Option CSpec} {f : FuncId} {kk : Nat} {fn : Func} {stop : List Nat}

theorem Runs.ret {todo : List Item} {s : St} {R : AV → St → Prop} (hf : P.funcs[f]? = some fn)
    (hstep : ∀ (b : Frame) (a : Act) (cs : List Frame) (w : World), Go.step P (lone (b.at a todo) cs w) = .next (lone { b.at a todo with mode := .returning } cs w)) (h : retK P fn s R) : Runs P f kk todo s R := by
  intro w β ok a b cs h1 h2 h3 h4
  obtain ⟨v, x, hR, hrun, hrep⟩ := retK_sound h4 h
  refine ⟨x, w, { b.at a todo with mode := .returning }, ⟨v, s, β, ok, hR, hrep, ⟨h4.mem, h4.len⟩, .refl _ _ _ _ _⟩, .one (hstep b a cs w), h1, ?_⟩
  exact ⟨rfl, h3, h2, fn, by rw [show ({ b.at a todo with mode := .returning } : Frame).fn = b.fn from rfl, h1]; exact hf, hrun⟩

theorem Runs.region {rid : Nat} {ops : Array Oper} {draw : Bool} {k : List Item} {s : St} {R : AV → St → Prop} {K : St → List FP → Prop}
    (h : evOps P T ops.toList s.n ops.toList 0 { s with n := s.n + ops.toList.length } [] K) (hKK : ∀ s' fps, K s' fps → (draw = true → drawOk P ops.toList fps = true) ∧ Runs P f kk k s' R) :
    Runs P f kk (.code (.region rid ops draw) :: k) s R := by
  intro w β ok a b cs h1 h2 h3 h4
  obtain ⟨es, s', hK, hch, hfst⟩ := evOps_chain ops.toList 0 _ _ _ rfl h
  obtain ⟨hm1, hm2, hm3, hm4⟩ := h4.more ops.toList.length
  have hi : ∀ i ∈ es.map (·.1), i < ops.toList.length := by
    intro i hi
    rw [hfst, List.mem_range'] at hi
    obtain ⟨j, hj, rfl⟩ := hi
    omega
  have hres : Res (β ++ List.replicate ops.toList.length none) s.n es := fun p hp => hm3 p.1 (hi p.1 (List.mem_map.2 ⟨p, hp, rfl⟩))
  have hon0 : ∀ {w' β' ok' σ'}, Onw w (β ++ List.replicate ops.toList.length none) ok s.σ w' β' ok' σ' → Onw w β ok s.σ w' β' ok' σ' := by
    intro w' β' ok' σ' ho
    have hl : ∀ g, live (β ++ List.replicate ops.toList.length none) s.σ g → live β s.σ g := by
      rintro g ⟨n, c, a1, a2⟩
      exact ⟨n, c, a1, (hm4 n c a1) ▸ a2⟩
    exact ⟨hm2.trans ho.ext, ho.okm, ho.fr.mono hl, fun g hg => (ho.lv g hg).imp (hl g) id, fun g hg => (ho.okn g hg).imp id (fun h => h.imp (hl g) id)⟩
  let Q : Exit → Act → World → Prop := fun e a' w' => e = .normal ∧ a'.defers = [] ∧ ∃ β' ok', Holds w' β' ok' s' a' ∧ Onw w β ok s.σ w' β' ok' s'.σ
  have hwp : (Code.region rid ops draw).wp P Q a w := by
    cases draw with
    | false =>
      refine wp_region ?_
      have hr : es.map (·.1) = List.range ops.size := by rw [hfst, List.range_eq_range']; simp
      rw [← hr]
      refine chain_ops rfl es hch hm1 hres (by rw [hr]; exact List.nodup_range) ?_
      intro a' w' β' ok' h' ho hd
      exact ⟨rfl, hd.trans h3, β', ok', h', hon0 ho⟩
    | true =>
      have hdr := (hKK _ _ hK).1 rfl
      unfold drawOk at hdr
      simp only [Bool.and_eq_true] at hdr
      obtain ⟨hmix, hback, hpair⟩ := hdr
      refine wp_region_any hmix ?_
      obtain ⟨hp1, _, _⟩ := pairs_of es [] hpair
      have hr : es.map (·.1) = List.range ops.size := by rw [hfst, List.range_eq_range']; simp
      have hdrew : Holds w.drew (β ++ List.replicate ops.toList.length none) ok { s with n := s.n + ops.toList.length } a :=
        ⟨hm1.len, hm1.size, fun k v hk => ARep.mono (w := w) (w' := w.drew) (fun _ _ => rfl) (fun _ h => h) (.refl _) (hm1.tm k v hk), ⟨fun n c hc => GoodBlk.mono (w := w) (w' := w.drew) (fun _ _ => rfl) (fun _ h => h) (.refl _) (fun _ _ => rfl) (hm1.mem.blks n c hc), hm1.mem.inj, hm1.mem.ro, hm1.mem.oklt⟩⟩
      have hondrew : Onw w (β ++ List.replicate ops.toList.length none) ok s.σ w.drew (β ++ List.replicate ops.toList.length none) ok s.σ := ⟨.refl _, fun _ h => h, ⟨rfl, rfl, rfl, Nat.le_refl _, fun _ _ _ => rfl⟩, fun _ h => .inl h, fun _ h => .inl h⟩
      refine chain_any (ops := ops.toList) (base := s.n) rfl hback ops.size es _ (w := w.drew) hch hdrew hres (by rw [hr]; exact List.pairwise_lt_range) hp1 (by simp) ?_ ?_ ?_ ?_ ?_
      · intro i hi'
        rw [hr]
        simp [hi']
      · intro i hi'
        rw [hr] at hi'
        simpa using hi'
      · intro i o ho hl
        exfalso
        have hil : i < ops.size := by have := (List.getElem?_eq_some_iff.1 ho).1; simpa using this
        simp [hil] at hl
      · have : es.length = ops.size := by rw [← List.length_map (f := (·.1)), hr]; simp
        omega
      · intro a' w' β' ok' h' ho hd
        exact ⟨rfl, hd.trans h3, β', ok', h', hon0 (hondrew.trans ho)⟩
  obtain ⟨e, a', w', ⟨he, hd', β', ok', h', ho⟩, harr⟩ := hwp b k cs
  subst he
  have hk : Runs P f kk k s' R := (hKK _ _ hK).2
  obtain ⟨x, w2, fr', ⟨v, s2, β2, ok2, r1, r2, r3, r4⟩, g2, g3, g4⟩ := hk w' β' ok' a' b cs h1 h2 hd' h'
  refine Fin.steps harr ⟨x, w2, fr', ⟨v, s2, β2, ok2, r1, r2, r3, ho.transK r4⟩, g2, g3, g4⟩

theorem evC_rep {w : World} {β : Beta} {ok : Nat → Prop} {s : St} {a : Act} (h : Holds w β ok s a) {c : Operand} {v : AV} (hc : evC s.t c = some v) : ARep w β ok v (a.eval c) := by
  cases c with
  | tmp k => exact h.tm k v hc
  | const x => exact .p (ofConst_rep hc).1
  | func g => simp [evC] at hc
  | global g => simp [evC] at hc

theorem condSt_seq {c : Operand} {s : St} {b : Bool} (h : evC s.t c = some (.b b)) : SEq s (condSt c b s) := by
  cases c with
  | tmp k => exact (tset_seq h).symm
  | _ => exact .refl s

theorem ev_sound {R : AV → St → Prop} {KS : List Item → St → Prop} (hf : P.funcs[f]? = some fn) (hKS : ∀ todo s, KS todo s → Runs P f kk todo s R) : ∀ (n : Nat) (todo : List Item) (s : St), ev P T fn stop KS R n todo s → Runs P f kk todo s R
  | 0, todo, s, h => hKS _ _ h
  | n + 1, todo, s, h => by
    unfold ev at h
    split at h
    · exact Runs.ret hf (fun b a cs w => step_end) h
    · exact Runs.ret hf (fun b a cs w => step_ret) h
    · exact Runs.step (fun b a cs w => step_skip) (ev_sound hf hKS n _ _ h)
    · exact Runs.step (fun b a cs w => step_label) (ev_sound hf hKS n _ _ h)
    · exact Runs.step (fun b a cs w => step_inBlock) (ev_sound hf hKS n _ _ h)
    · exact Runs.step (fun b a cs w => step_seq) (ev_sound hf hKS n _ _ h)
    · rename_i c x y k
      split at h
      · rename_i t ht
        have both : ∀ bb, t = bb → Runs P f kk (.code (if bb then x else y) :: k) (condSt c bb s) R → Runs P f kk (.code (.cond c x y) :: k) s R := by
          intro bb hb hr
          subst hb
          refine Runs.congr (condSt_seq ht) ?_
          intro w β ok a b cs h1 h2 h3 h4
          have hc : a.eval c = .bool t := by
            have hh := h4.congr (condSt_seq ht).symm
            exact rep_bool (evC_rep hh ht)
          exact Fin.steps (.one (step_cond hc)) (hr w β ok a b cs h1 h2 h3 h4)
        rcases brP_elim h with ⟨e, h⟩ | ⟨e, h⟩
        · exact both true e (ev_sound hf hKS n _ _ h)
        · exact both false e (ev_sound hf hKS n _ _ h)
      · exact h.elim
    · exact Runs.step (fun b a cs w => step_block) (ev_sound hf hKS n _ _ h)
    · exact Runs.step (fun b a cs w => step_loop) (hKS _ _ h)
    · exact Runs.step (fun b a cs w => step_inLoop) (hKS _ _ h)
    · split at h
      · rename_i k' hk
        exact Runs.step (fun b a cs w => step_exit hk) (ev_sound hf hKS n _ _ h)
      · exact h.elim
    · rename_i id ops draw k
      cases hs : memN id stop with
      | true => rw [hs] at h; exact hKS _ _ h
      | false =>
        rw [hs] at h
        simp only [cond_false] at h
        refine Runs.region h ?_
        intro s' fps hh
        cases draw with
        | true => exact ⟨fun _ => hh.1, ev_sound hf hKS n k s' hh.2⟩
        | false => exact ⟨fun e => by simp at e, ev_sound hf hKS n k s' hh⟩
    · exact h.elim
end
end Go.AM
