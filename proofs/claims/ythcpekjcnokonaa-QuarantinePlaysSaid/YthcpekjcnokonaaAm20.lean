/- The evaluation of a function's code on abstract states, and that it is sound. -/
import Derived.Test.YthcpekjcnokonaaAm19
set_option linter.unusedVariables false
set_option linter.unusedSimpArgs false
namespace Go.AM
open Go.RowKit

/-- The call comes to an end, and R holds of what it returns and of memory. -/
def Fin (P : Program) (f : FuncId) (fr : Frame) (cs : List Frame) (w : World) (R : Value → World → Prop) : Prop :=
  ∃ x w' fr', R x w' ∧ Comes P (lone fr cs w) (lone fr' cs w') (.returned x) ∧ fr'.fn = f ∧ fr'.leaving P w' (.returned x)

/-- As 'Onw', but the names from k on may be others than they were. -/
structure OnwK (kk : Nat) (w : World) (β : Beta) (ok : Nat → Prop) (σ : Heap) (w' : World) (β' : Beta) (ok' : Nat → Prop) (σ' : Heap) : Prop where
  ext : ∀ n v, n < kk → β[n]? = some (some v) → β'[n]? = some (some v)
  okm : ∀ g, ok g → ok' g
  fr : Fr (live β σ) w w'
  lv : ∀ g, live β' σ' g → live β σ g ∨ w.heap.size ≤ g
  okn : ∀ g, ok' g → ok g ∨ live β σ g ∨ w.heap.size ≤ g
theorem OnwK.refl (kk : Nat) (w : World) (β : Beta) (ok : Nat → Prop) (σ : Heap) : OnwK kk w β ok σ w β ok σ := ⟨fun _ _ _ h => h, fun _ h => h, .refl _ _, fun _ h => .inl h, fun _ h => .inl h⟩
theorem Onw.transK {kk : Nat} {w w1 w2 : World} {β β1 β2 : Beta} {ok ok1 ok2 : Nat → Prop} {σ σ1 σ2 : Heap} (h : Onw w β ok σ w1 β1 ok1 σ1) (k : OnwK kk w1 β1 ok1 σ1 w2 β2 ok2 σ2) : OnwK kk w β ok σ w2 β2 ok2 σ2 := by
  have hs := h.fr.size
  refine ⟨fun n v hn hv => k.ext n v hn (h.ext n v hv), fun g hg => k.okm g (h.okm g hg), h.fr.trans k.fr h.lv, fun g hg => ?_, fun g hg => ?_⟩
  · rcases k.lv g hg with h1 | h1
    · exact h.lv g h1
    · exact .inr (by omega)
  · rcases k.okn g hg with h1 | h1 | h1
    · exact h.okn g h1
    · exact .inr (h.lv g h1)
    · exact .inr (.inr (by omega))

/-- From this state, with this code still to be run, the call returns, and R holds of its result and its state. -/
def Runs (P : Program) (f : FuncId) (kk : Nat) (todo : List Item) (s : St) (R : AV → St → Prop) : Prop :=
  ∀ (w : World) (β : Beta) (ok : Nat → Prop) (a : Act) (b : Frame) (cs : List Frame), b.fn = f → b.kind = .normal → a.defers = [] → Holds w β ok s a →
    Fin P f (b.at a todo) cs w fun x w' => ∃ v s' β' ok', R v s' ∧ ARep w' β' ok' v x ∧ (Mem w' β' ok' s'.σ ∧ β'.length = s'.n) ∧ OnwK kk w β ok s.σ w' β' ok' s'.σ

theorem Fin.steps {P : Program} {f : FuncId} {fr fr1 : Frame} {cs : List Frame} {w w1 : World} {R : Value → World → Prop} (h : Steps P (lone fr cs w) (lone fr1 cs w1)) (k : Fin P f fr1 cs w1 R) : Fin P f fr cs w R := by
  obtain ⟨x, w', fr', h1, h2, h3, h4⟩ := k
  exact ⟨x, w', fr', h1, Comes.of_steps h h2, h3, h4⟩

theorem Runs.step {P : Program} {f : FuncId} {kk : Nat} {todo todo' : List Item} {s : St} {R : AV → St → Prop} (h : ∀ (b : Frame) (a : Act) (cs : List Frame) (w : World), Go.step P (lone (b.at a todo) cs w) = .next (lone (b.at a todo') cs w))
    (k : Runs P f kk todo' s R) : Runs P f kk todo s R := fun w β ok a b cs h1 h2 h3 h4 => Fin.steps (.one (h b a cs w)) (k w β ok a b cs h1 h2 h3 h4)

theorem Runs.congr {P : Program} {f : FuncId} {kk : Nat} {todo : List Item} {s s' : St} {R : AV → St → Prop} (e : SEq s s') (k : Runs P f kk todo s' R) : Runs P f kk todo s R := by
  intro w β ok a b cs h1 h2 h3 h4
  obtain ⟨x, w', fr', ⟨v, s2, β', ok', r1, r2, r3, r4⟩, g2, g3, g4⟩ := k w β ok a b cs h1 h2 h3 (h4.congr e)
  refine ⟨x, w', fr', ⟨v, s2, β', ok', r1, r2, r3, ⟨r4.ext, r4.okm, r4.fr.mono (fun g ⟨n, c, a, b⟩ => ⟨n, c, (e.σ n).trans a, b⟩), fun g hg => ?_, fun g hg => ?_⟩⟩, g2, g3, g4⟩
  · rcases r4.lv g hg with ⟨n, c, a, b⟩ | h
    · exact .inl ⟨n, c, (e.σ n).trans a, b⟩
    · exact .inr h
  · rcases r4.okn g hg with h | ⟨n, c, a, b⟩ | h
    · exact .inl h
    · exact .inr (.inl ⟨n, c, (e.σ n).trans a, b⟩)
    · exact .inr (.inr h)

/-! ### What is returned -/
def resK (P : Program) (F : Nat → Option Blk) (t : List (Nat × AV)) : List ResultVar → (List AV → Prop) → Prop
  | [], K => K []
  | .tmp k :: r, K => match look k t with
    | some v => resK P F t r fun l => K (v :: l)
    | none => False
  | .cell a ty :: r, K => match look a t with
    | some p => loadK P ty F p fun v => resK P F t r fun l => K (v :: l)
    | none => False
def retL (K : AV → St → Prop) (s : St) (l : List AV) : Prop :=
  match l with
  | [v] => K v s
  | _ => K (.tup l) s
def retK (P : Program) (fn : Func) (s : St) (K : AV → St → Prop) : Prop :=
  resK P (fun n => look n s.σ) s.t fn.results.toList fun l => retL K s l

section
variable {P : Program} {T : Nat → Option CSpec} {f : FuncId} {fn : Func}

theorem resK_sound {w : World} {β : Beta} {ok : Nat → Prop} {s : St} {a : Act} (h : Holds w β ok s a) (g : ResultVar → Sem Value) (hg1 : ∀ t, g (.tmp t) = pure (a.tmps.getD t undef))
    (hg2 : ∀ p t, g (.cell p t) = (do loadVar t (← asAddr (a.tmps.getD p undef)))) : ∀ (rs : List ResultVar) (K : List AV → Prop), resK P (fun n => look n s.σ) s.t rs K →
    ∃ l vs, K l ∧ (rs.mapM g).run P w = .ok vs w ∧ l.length = vs.length ∧ rs.length = vs.length ∧
      ∀ (j : Nat) (b : AV) (x : Value), l[j]? = some b → vs[j]? = some x → ARep w β ok b x
  | [], K, hk => ⟨[], [], hk, by simp, rfl, rfl, fun j b x hb => by simp at hb⟩
  | .tmp k :: r, K, hk => by
    unfold resK at hk
    split at hk
    · rename_i v hv
      obtain ⟨l, vs, h1, h2, h3, h4, h5⟩ := resK_sound h g hg1 hg2 r _ hk
      refine ⟨v :: l, a.tmps.getD k undef :: vs, h1, ?_, by simp [h3], by simp [h4], fun j b x hb hx => ?_⟩
      · simp only [List.mapM_cons, Sem.run_bind, hg1, Sem.run_pure, Result.andThen_ok, h2]
      · cases j with
        | zero =>
          simp only [List.getElem?_cons_zero, Option.some.injEq] at hb hx
          subst hb
          subst hx
          exact h.tm k _ hv
        | succ j => exact h5 j b x (by simpa using hb) (by simpa using hx)
    · exact hk.elim
  | .cell p ty :: r, K, hk => by
    unfold resK at hk
    split at hk
    · rename_i q hq
      obtain ⟨v, y, hK, hrun, hrep⟩ := loadK_sound hk (h.tm p q hq) h.mem (fun n c hc => hc)
      obtain ⟨l, vs, h1, h2, h3, h4, h5⟩ := resK_sound h g hg1 hg2 r _ hK
      have hld : (g (.cell p ty)).run P w = .ok y w := by
        rw [hg2]
        generalize a.tmps.getD p undef = pv at hrun ⊢
        cases pv <;> simp only [Instr.loadAt, Instr.sureAddr, Sem.run_bind, run_stuck, Result.andThen_halt] at hrun <;> try (simp at hrun; done)
        rename_i ad
        cases ad with
        | none => simp [Instr.sureAddr] at hrun
        | some ad => simpa [asAddr] using hrun
      refine ⟨v :: l, y :: vs, h1, ?_, by simp [h3], by simp [h4], fun j b x hb hx => ?_⟩
      · simp only [List.mapM_cons, Sem.run_bind, hld, Result.andThen_ok, h2, Sem.run_pure]
      · cases j with
        | zero =>
          simp only [List.getElem?_cons_zero, Option.some.injEq] at hb hx
          subst hb
          subst hx
          exact hrep
        | succ j => exact h5 j b x (by simpa using hb) (by simpa using hx)
    · exact hk.elim

def resOne (tmps : Array Value) : ResultVar → Sem Value
  | .tmp t => pure (tmps.getD t undef)
  | .cell p t => do loadVar t (← asAddr (tmps.getD p undef))
theorem results_eq (tmps : Array Value) : results fn tmps = (do let vs ← fn.results.mapM (resOne tmps); pure (if h : vs.size = 1 then vs[0] else .tuple vs)) := by
  unfold results
  have e : (fun x : ResultVar => (match x with | .tmp t => pure (tmps.getD t undef) | .cell a t => (do loadVar t (← asAddr (tmps.getD a undef))) : Sem Value)) = resOne tmps := by
    funext x
    cases x <;> rfl
  rw [← e]
  rfl

theorem retK_sound {w : World} {β : Beta} {ok : Nat → Prop} {s : St} {a : Act} {K : AV → St → Prop} (h : Holds w β ok s a) (hk : retK P fn s K) :
    ∃ v x, K v s ∧ (results fn a.tmps).run P w = .ok x w ∧ ARep w β ok v x := by
  unfold retK at hk
  have hrun : ∃ (l : List AV) (vs : List Value), retL K s l ∧ (results fn a.tmps).run P w = .ok (if hh : vs.toArray.size = 1 then vs.toArray[0] else .tuple vs.toArray) w ∧ l.length = vs.length ∧
      ∀ (j : Nat) (b : AV) (x : Value), l[j]? = some b → vs[j]? = some x → ARep w β ok b x := by
    obtain ⟨l, vs, h1, h2, h3, h4, h5⟩ := resK_sound h (resOne a.tmps) (fun t => rfl) (fun p t => rfl) _ _ hk
    refine ⟨l, vs, h1, ?_, h3, h5⟩
    rw [results_eq, Array.mapM_eq_mapM_toList]
    simp only [Sem.run_bind, Sem.run_map, h2, Result.andThen_ok, Sem.run_pure]
  obtain ⟨l, vs, h1, hrun, h3, h5⟩ := hrun
  by_cases h1' : vs.length = 1
  · obtain ⟨x, rfl⟩ := List.length_eq_one_iff.1 h1'
    obtain ⟨v, rfl⟩ := List.length_eq_one_iff.1 (h3.trans h1')
    refine ⟨v, x, (h1 : K v s), ?_, h5 0 v x rfl rfl⟩
    rw [hrun]
    simp
  · refine ⟨.tup l, .tuple vs.toArray, ?_, ?_, .tup (by simpa using h3) (fun j b x hb hx => h5 j b x hb (by simpa using hx))⟩
    · unfold retL at h1
      split at h1
      · rename_i v
        simp at h3
        exact absurd h3.symm h1'
      · exact h1
    · rw [hrun]
      simp [h1']

/-! ### The evaluation -/
def condSt (c : Operand) (b : Bool) (s : St) : St :=
  match c with
  | .tmp k => { s with t := tset k (.b b) s.t }
  | _ => s
def evC (t : List (Nat × AV)) : Operand → Option AV
  | .tmp k => look k t
  | .const v => ofConst v
  | _ => none

/-- 'KS': the rest is put off (behind so many steps, at a loop's head, at a region whose number is in 'stop'). 'KR': the call returns. -/
def ev (P : Program) (T : Nat → Option CSpec) (fn : Func) (stop : List Nat) (KS : List Item → St → Prop) (KR : AV → St → Prop) : Nat → List Item → St → Prop
  | 0, todo, s => KS todo s
  | n + 1, todo, s =>
    match todo with
    | [] => retK P fn s KR
    | .code .ret :: _ => retK P fn s KR
    | .code .skip :: k => ev P T fn stop KS KR n k s
    | .code (.label _) :: k => ev P T fn stop KS KR n k s
    | .inBlock _ :: k => ev P T fn stop KS KR n k s
    | .code (.seq x y) :: k => ev P T fn stop KS KR n (.code x :: .code y :: k) s
    | .code (.cond c x y) :: k => match evC s.t c with
      | some (.b t) => brP t (ev P T fn stop KS KR n (.code x :: k) (condSt c true s)) (ev P T fn stop KS KR n (.code y :: k) (condSt c false s))
      | _ => False
    | .code (.block id body) :: k => ev P T fn stop KS KR n (.code body :: .inBlock id :: k) s
    | .code (.loop body) :: k => KS (.code body :: .inLoop body :: k) s
    | .inLoop body :: k => KS (.code body :: .inLoop body :: k) s
    | .code (.exit id) :: k => match exitTo id k with
      | some k' => ev P T fn stop KS KR n k' s
      | none => False
    | .code (.region id ops draw) :: k =>
      bif memN id stop then KS todo s
      else
        let ops := ops.toList
        evOps P T ops s.n ops 0 { s with n := s.n + ops.length } [] fun s' fps => bif draw then drawOk P ops fps = true ∧ ev P T fn stop KS KR n k s' else ev P T fn stop KS KR n k s'
    | _ => False

theorem Holds.more {w : World} {β : Beta} {ok : Nat → Prop} {s : St} {a : Act} (h : Holds w β ok s a) (k : Nat) :
    Holds w (β ++ List.replicate k none) ok { s with n := s.n + k } a ∧ BExt β (β ++ List.replicate k none) ∧ (∀ i, i < k → (β ++ List.replicate k none)[s.n + i]? = some none) ∧
      ∀ n c, look n s.σ = some c → blockOf (β ++ List.replicate k none) n = blockOf β n := by
  have hext : BExt β (β ++ List.replicate k none) := by
    intro n v hv
    rw [List.getElem?_append_left (List.getElem?_eq_some_iff.1 hv).1]
    exact hv
  have hb : ∀ n c, look n s.σ = some c → blockOf (β ++ List.replicate k none) n = blockOf β n := by
    intro n c hc
    obtain ⟨⟨v, hv⟩, _⟩ := (h.mem.blks n c hc).block
    rw [blockOf_some hv, blockOf_some (hext n v hv)]
  refine ⟨⟨by simp [h.len], h.size, fun j v hj => (h.tm j v hj).mono (fun _ _ => rfl) (fun _ h => h) hext, ⟨fun n c hc => (h.mem.blks n c hc).mono (fun _ _ => rfl) (fun _ h => h) hext (fun _ _ => rfl), fun n m c d g hnm h1 h2 h3 => ?_, fun n c g hc h1 => ?_, h.mem.oklt⟩⟩, hext, fun i hi => ?_, hb⟩
  · rw [hb n c h1] at h3
    rw [hb m d h2]
    exact h.mem.inj n m c d g hnm h1 h2 h3
  · rw [hb n c hc] at h1
    exact h.mem.ro n c g hc h1
  · rw [List.getElem?_append_right (by rw [h.len]; omega), h.len, List.getElem?_replicate, if_pos (by omega)]
end
end Go.AM
