/- One operation, calls among them; the operations of a region, in the order of the text or in any order that its edges allow. -/
import Derived.Test.YthcpekjcnokonaaAm15
import Derived.Test.YthcpekjcnokonaaAm26
import Derived.Orders
set_option linter.unusedVariables false
set_option linter.unusedSimpArgs false
namespace Go.AM
open Go.RowKit

def evArgs (ρ : Env) : List Operand → Option (List AV)
  | [] => some []
  | x :: r => match ρ x, evArgs ρ r with
    | some a, some l => some (a :: l)
    | _, _ => none

/-- A function without a body of its own, called with these arguments over these live blocks: it gives a number, a string or a truth value, and leaves all as it was. -/
def NCalls (P : Program) (g : Nat) (args : List AV) (F : Nat → Option Blk) (v : AV) : Prop :=
  ∀ (w : World) (β : Beta) (ok : Nat → Prop) (σ : Heap) (vs : Array Value), RepL w β ok args vs → Mem w β ok σ → (∀ n c, F n = some c → look n σ = some c) →
    ∃ x, (callFunc g vs).run P w = .ok (.value x) w ∧ ARep w β ok v x
def exK (P : Program) (o : Oper) (nm : Nat) (ρ : Env) (F : Nat → Option Blk) (K : AV → Upd → Prop) : Prop :=
  bif isX P o ρ then opX P o nm ρ F K else opK P o nm ρ F K
def stepK (P : Program) (T : Nat → Option CSpec) (o : Oper) (nm : Nat) (ρ : Env) (F : Nat → Option Blk) (K : AV → Upd → Prop) : Prop :=
  match o.op with
  | .call c => match c.callee with
    | .value f => match ρ f, evArgs ρ c.args.toList with
      | some (.fn g p q), some as => bif goFn P g then callK P T g (p ++ as ++ q) nm F K else exRes P (resT P g) fun v => NCalls P g (p ++ as ++ q) F v ∧ K v .none
      | _, _ => False
    | _ => exK P o nm ρ F K
  | _ => exK P o nm ρ F K

section
variable {P : Program} {T : Nat → Option CSpec} {o : Oper} {a : Act} {w : World} {β : Beta} {ok : Nat → Prop} {σ : Heap} {nm : Nat} {ρ : Env} {F : Nat → Option Blk}

theorem exCells_all {n : Nat} {t : TypeId} {K : List AV → Prop} (h : exCells P n t K) : ∃ l, K l ∧ ∀ K' : List AV → Prop, K' l → exCells P n t K' := by
  obtain ⟨l, h1, h2⟩ := exCells_pick h
  exact ⟨l, h1, fun K' hk => exCells_mono (fun l' e => by rw [e]; exact hk) n t h2⟩
theorem exVal_all {t : TypeId} {K : AV → Prop} (h : exVal P t K) : ∃ v, K v ∧ ∀ K' : AV → Prop, K' v → exVal P t K' := by
  unfold exVal at *
  split at h
  · obtain ⟨l, h1, h2⟩ := exCells_all h
    exact ⟨_, h1, fun K' hk => h2 _ hk⟩
  · obtain ⟨l, h1, h2⟩ := exCells_all h
    split at h1
    · exact ⟨_, h1, fun K' hk => h2 _ hk⟩
    · exact h1.elim
theorem exVals_all : ∀ (ts : List TypeId) (K : List AV → Prop), exVals P ts K → ∃ l, K l ∧ ∀ K' : List AV → Prop, K' l → exVals P ts K'
  | [], K, h => ⟨_, h, fun K' hk => hk⟩
  | t :: r, K, h => by
    obtain ⟨v, h1, h2⟩ := exVal_all h
    obtain ⟨l, h3, h4⟩ := exVals_all r _ h1
    exact ⟨_, h3, fun K' hk => h2 _ (h4 _ hk)⟩
theorem exRes_all {ts : List TypeId} {K : AV → Prop} (h : exRes P ts K) : ∃ v, K v ∧ ∀ K' : AV → Prop, K' v → exRes P ts K' := by
  unfold exRes at *
  split at h
  · exact exVal_all h
  · obtain ⟨l, h1, h2⟩ := exVals_all _ _ h
    exact ⟨_, h1, fun K' hk => h2 _ hk⟩

theorem callK_pick {g : Nat} {args : List AV} {K : AV → Upd → Prop} (h : callK P T g args nm F K) : ∃ v u, K v u ∧ callK P T g args nm F (fun v' u' => v' = v ∧ u' = u) := by
  unfold callK at *
  obtain ⟨hgo, h⟩ := bif_elim h
  split at h
  · rename_i fargs nsF hfz
    dsimp only at h
    obtain ⟨hb, h⟩ := bif_elim h
    split at h
    · rename_i args' σin hren hin
      have hex : ∃ v σout, (ACalls P g args' σin v σout ∧ callB (clo F 3 (dedup (fargs.flatMap (refs 20)) [])) nsF nm K v σout) ∧ ∀ K' : AV → Heap → Prop, K' v σout → (match T g with | some S => S.ex args' σin | none => fun K => exRes P (resT P g) fun v => K v []) K' := by
        cases hT : T g with
        | some S => rw [hT] at h; exact S.ok _ _ _ h
        | none => rw [hT] at h; obtain ⟨v, h1, h2⟩ := exRes_all h; exact ⟨v, [], h1, fun K' hk => h2 _ hk⟩
      obtain ⟨v, σout, ⟨hc, hback⟩, hall⟩ := hex
      rw [hgo]
      simp only [cond_true, hb, hren, hin]
      unfold callB at hback
      split at hback
      · rename_i v' σout' hv' hσ'
        obtain ⟨hkn, hback⟩ := bif_elim hback
        cases hs : scal v' && (clo F 3 (dedup (fargs.flatMap (refs 20)) [])).isEmpty with
        | true =>
          rw [hs] at hback
          refine ⟨_, _, hback, hall _ ⟨hc, ?_⟩⟩
          simp [callB, hv', hσ', hkn, hs]
        | false =>
          rw [hs] at hback
          refine ⟨_, _, hback, hall _ ⟨hc, ?_⟩⟩
          simp [callB, hv', hσ', hkn, hs]
      · exact hback.elim
    · exact h.elim
  · exact h.elim

theorem exK_pick {K : AV → Upd → Prop} (h : exK P o nm ρ F K) : ∃ v u, K v u ∧ exK P o nm ρ F (fun v' u' => v' = v ∧ u' = u) := by
  unfold exK at *
  cases hx : isX P o ρ with
  | true =>
    rw [hx] at h
    obtain ⟨v, u, h1, h2⟩ := opX_pick h
    exact ⟨v, u, h1, h2⟩
  | false =>
    rw [hx] at h
    obtain ⟨v, u, h1, h2⟩ := opK_pick h
    exact ⟨v, u, h1, h2⟩
theorem exK_sound {K : AV → Upd → Prop} (hs : Sit w β ok σ nm a ρ F) (h : exK P o nm ρ F K) : ∃ v u, K v u ∧ ODone P o a w β ok σ nm v u := by
  unfold exK at h
  cases hx : isX P o ρ with
  | true => rw [hx] at h; exact opX_sound hs h
  | false => rw [hx] at h; exact op_sound hs h

theorem stepK_pick {K : AV → Upd → Prop} (h : stepK P T o nm ρ F K) : ∃ v u, K v u ∧ stepK P T o nm ρ F (fun v' u' => v' = v ∧ u' = u) := by
  unfold stepK at *
  split at h
  · rename_i c hc
    split at h
    · rename_i f hf
      split at h
      · rename_i g p q as h1 h2
        cases hg : goFn P g with
        | true =>
          rw [hg] at h
          obtain ⟨v, u, h3, h4⟩ := callK_pick h
          exact ⟨v, u, h3, h4⟩
        | false =>
          rw [hg] at h
          obtain ⟨v, ⟨h3, h4⟩, h5⟩ := exRes_all h
          exact ⟨v, .none, h4, h5 _ ⟨h3, rfl, rfl⟩⟩
      · exact h.elim
    · rename_i hne
      obtain ⟨v, u, h3, h4⟩ := exK_pick h
      exact ⟨v, u, h3, h4⟩
  · rename_i hne
    obtain ⟨v, u, h3, h4⟩ := exK_pick h
    exact ⟨v, u, h3, h4⟩

theorem evArgs_rep (hr : ∀ x v, ρ x = some v → ARep w β ok v (a.eval x)) : ∀ (l : List Operand) (vs : List AV), evArgs ρ l = some vs → RepL w β ok vs (l.map a.eval).toArray
  | [], vs, h => by
    simp [evArgs] at h
    subst h
    exact ⟨rfl, fun j b v hb => by simp at hb⟩
  | x :: l, vs, h => by
    unfold evArgs at h
    split at h
    · rename_i v vs' hv hvs
      injection h with h
      subst h
      obtain ⟨h1, h2⟩ := evArgs_rep hr l vs' hvs
      refine ⟨by simpa using h1, fun j b y hb hy => ?_⟩
      cases j with
      | zero =>
        simp at hb hy
        subst hb
        subst hy
        exact hr x _ hv
      | succ j => exact h2 j b y (by simpa using hb) (by simpa using hy)
    · simp at h

theorem RepL.append {p q : List AV} {A B : Array Value} (h : RepL w β ok p A) (k : RepL w β ok q B) : RepL w β ok (p ++ q) (A ++ B) := by
  have h1 := h.1
  refine ⟨by simp [h.1, k.1], fun j a v ha hv => ?_⟩
  by_cases hj : j < p.length
  · rw [List.getElem?_append_left hj] at ha
    rw [Array.getElem?_append, if_pos (by omega)] at hv
    exact h.2 j a v ha hv
  · rw [List.getElem?_append_right (by omega)] at ha
    rw [Array.getElem?_append, if_neg (by omega)] at hv
    exact k.2 _ a v ha (by rw [h1]; exact hv)

theorem run_callFunc_go {g : Nat} {args : Array Value} (h : goFn P g = true) : (callFunc g args).run P w = .ok (.enter g args) w := by
  unfold goFn at h
  split at h
  · rename_i fn hf
    simp only [Bool.and_eq_true, Bool.not_eq_true'] at h
    have h2 : fn.body.isNone = false := by
      cases hb : fn.body with
      | none => rw [hb] at h; simp at h
      | some c => rfl
    simp only [callFunc, Sem.run_bind, run_program, Result.andThen_ok, hf, h.1, h2, Bool.false_eq_true, if_false, Sem.run_pure]
  · simp at h

theorem step_sound {K : AV → Upd → Prop} {next : Act → World → Prop} {Q : Exit → Act → World → Prop} (hs : Sit w β ok σ nm a ρ F) (h : stepK P T o nm ρ F K)
    (hnext : ∀ v u x w' β' ok', K v u → ARep w' β' ok' v x → OpOK w β ok σ nm w' β' ok' u → next (a.put o.dst x) w') : o.wp P a w next Q := by
  have plain : exK P o nm ρ F K → o.wp P a w next Q := by
    intro h
    obtain ⟨v, u, hK, nx, x, w', β', ok', hrun, hnx, hrep, hop⟩ := exK_sound hs h
    unfold Oper.wp
    rw [hrun]
    rcases hnx with rfl | ⟨rfl, rfl⟩
    · exact hnext v u x w' β' ok' hK hrep hop
    · exact hnext v u undef w' β' ok' hK hrep hop
  unfold stepK at h
  split at h
  · rename_i c hc
    split at h
    · rename_i f hf
      split at h
      · rename_i g p q as h1 h2
        obtain ⟨A, B, hfn, hA, hB⟩ := rep_fn (hs.hr f _ h1)
        have hargs := evArgs_rep hs.hr _ _ h2
        have hall := RepL.append (RepL.append hA hargs) hB
        have e : c.args.map a.eval = (c.args.toList.map a.eval).toArray := by rw [← Array.toList_map]
        cases hg : goFn P g with
        | false =>
          rw [hg] at h
          obtain ⟨v, ⟨hN, hK⟩, _⟩ := exRes_all h
          obtain ⟨x, hrun, hrep⟩ := hN w β ok σ _ hall hs.hm hs.hF
          unfold Oper.wp
          have hrun' : (execOp a.eval o).run P w = .ok (.value x) w := by
            simp only [execOp, hc, resolve, hf, hfn, Deferred.ofValue, Sem.run_bind, Sem.run_pure, Result.andThen_ok, invoke, e]
            exact hrun
          rw [hrun']
          exact hnext v .none x w β ok hK hrep (OpOK.quiet hs.hm rfl rfl rfl rfl)
        | true =>
        rw [hg] at h
        obtain ⟨hgo, hcall⟩ := callK_sound hs.hm hs.hn hs.hF hall h
        unfold Oper.wp
        have hrun : (execOp a.eval o).run P w = .ok (.enter g (A ++ (c.args.toList.map a.eval).toArray ++ B)) w := by
          simp only [execOp, hc, resolve, hf, hfn, Deferred.ofValue, Sem.run_bind, Sem.run_pure, Result.andThen_ok, invoke, e]
          exact run_callFunc_go hgo
        rw [hrun]
        refine Calls.mono hcall ?_
        rintro e w' ⟨x, v, u, β', ok', rfl, hK, hrep, hop⟩
        exact hnext v u x w' β' ok' hK hrep hop
      · exact h.elim
    · exact plain h
  · exact plain h
end
end Go.AM
