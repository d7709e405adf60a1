/- Calls on abstract values are sound. -/
import Derived.Test.YthcpekjcnokonaaAm12
set_option linter.unusedVariables false
namespace Go.AM
open Go.RowKit

/-- How a function is called that is handed something live: which arguments are frozen, and what shape comes back. -/
structure CSpec where
  frz : Nat → Bool
  ex : List AV → Heap → (AV → Heap → Prop) → Prop
  ok : ∀ (a : List AV) (σ : Heap) (K : AV → Heap → Prop), ex a σ K → ∃ v σ', K v σ' ∧ ∀ K' : AV → Heap → Prop, K' v σ' → ex a σ K'

def exVals (P : Program) : List TypeId → (List AV → Prop) → Prop
  | [], K => K []
  | t :: r, K => exVal P t fun v => exVals P r fun l => K (v :: l)
def exRes (P : Program) (ts : List TypeId) (K : AV → Prop) : Prop :=
  match ts with
  | [t] => exVal P t K
  | _ => exVals P ts fun l => K (.tup l)
theorem exVal_ex {P : Program} {t : TypeId} {K : AV → Prop} (h : exVal P t K) : ∃ v, K v := by
  unfold exVal at h
  split at h
  · obtain ⟨cs, h⟩ := exCells_ex _ _ _ h; exact ⟨_, h⟩
  · obtain ⟨cs, h⟩ := exCells_ex _ _ _ h
    split at h
    · exact ⟨_, h⟩
    · exact h.elim
theorem exVals_ex {P : Program} : ∀ (ts : List TypeId) (K : List AV → Prop), exVals P ts K → ∃ l, K l
  | [], K, h => ⟨_, h⟩
  | t :: r, K, h => by
    obtain ⟨v, h⟩ := exVal_ex h
    obtain ⟨l, h⟩ := exVals_ex r _ h
    exact ⟨_, h⟩
theorem exRes_ex {P : Program} {ts : List TypeId} {K : AV → Prop} (h : exRes P ts K) : ∃ v, K v := by
  unfold exRes at h
  split at h
  · exact exVal_ex h
  · obtain ⟨l, h⟩ := exVals_ex _ _ h; exact ⟨_, h⟩

def scal1 : AV → Bool
  | .b _ | .i _ _ | .s _ => true
  | _ => false
def scal : AV → Bool
  | .tup vs => vs.all scal1
  | .ag vs => vs.all scal1
  | v => scal1 v

def goFn (P : Program) (g : Nat) : Bool :=
  match P.funcs[g]? with
  | some fn => !(fn.name == "runtime.NumGoroutine") && fn.body.isSome
  | none => false
def resT (P : Program) (g : Nat) : List TypeId :=
  match P.funcs[g]? with
  | some fn => fn.resultTypes.toList
  | none => []

def frzArgs (frz : Nat → Bool) (F : Nat → Option Blk) : Nat → List AV → Option (List AV × List Nat)
  | _, [] => some ([], [])
  | k, v :: r => match (bif frz k then fz F 20 v else some (v, [])), frzArgs frz F (k + 1) r with
    | some (a, n), some (l, m) => some (a :: l, n ++ m)
    | _, _ => none

/-- The live names in a value. -/
def refs : Nat → AV → List Nat
  | 0, _ => []
  | k + 1, v => match v with
    | .own n | .row n _ _ _ | .ptr n _ | .eptr n _ _ _ | .mp n | .fv n _ _ _ _ => [n]
    | .ag cs | .tup cs => cs.flatMap (refs k)
    | .fn _ p q => p.flatMap (refs k) ++ q.flatMap (refs k)
    | _ => []
def addN (n : Nat) : List Nat → List Nat
  | [] => [n]
  | m :: r => bif Nat.beq n m then m :: r else m :: addN n r
def dedup : List Nat → List Nat → List Nat
  | [], acc => acc
  | n :: r, acc => dedup r (addN n acc)
def blkRefs : Option Blk → List Nat
  | some (.cells cs) => cs.flatMap (refs 20)
  | _ => []
def clo (F : Nat → Option Blk) : Nat → List Nat → List Nat
  | 0, ns => ns
  | k + 1, ns => clo F k (dedup (ns.flatMap fun n => blkRefs (F n)) ns)

def memN (n : Nat) : List Nat → Bool
  | [] => false
  | m :: r => Nat.beq n m || memN n r
def nodupN : List Nat → Bool
  | [] => true
  | n :: r => !memN n r && nodupN r

def inBlks (F : Nat → Option Blk) (m : Nat → Option Nat) : Nat → List Nat → Option Heap
  | _, [] => some []
  | k, n :: r => match F n, inBlks F m (k + 1) r with
    | some b, some l => match renBlk m b with
      | some b' => some ((k, b') :: l)
      | none => none
    | _, _ => none
def backN (ns : List Nat) (nm : Nat) (i : Nat) : Option Nat := bif Nat.blt i ns.length then ns[i]? else bif Nat.beq i ns.length then some nm else none
def outBlks (m : Nat → Option Nat) : Heap → Option Heap
  | [] => some []
  | (i, b) :: r => match m i, renBlk m b, outBlks m r with
    | some n, some b', some l => some ((n, b') :: l)
    | _, _, _ => none

/-- No name twice. -/
def keysNodup (s : Heap) : Bool := nodupN (s.map (·.1))

/-- What a call's result is to the caller. -/
def callB (ns nsF : List Nat) (nm : Nat) (K : AV → Upd → Prop) (v : AV) (σout : Heap) : Prop :=
  match ren (backN ns nm) 20 v, outBlks (backN ns nm) σout with
  | some v', some σout' => bif keysNodup σout then (bif scal v' && ns.isEmpty then K v' .none else K v' (.call (ns ++ nsF) σout')) else False
  | _, _ => False
def callK (P : Program) (T : Nat → Option CSpec) (g : Nat) (args : List AV) (nm : Nat) (F : Nat → Option Blk) (K : AV → Upd → Prop) : Prop :=
  bif goFn P g then
    match frzArgs (match T g with | some S => S.frz | none => fun _ => true) F 0 args with
    | some (fargs, nsF) =>
      let ns := clo F 3 (dedup (fargs.flatMap (refs 20)) [])
      bif nodupN ns && ns.all (fun n => !memN n nsF) then
        match mapAll (ren (fun n => idx n 0 ns) 20) fargs, inBlks F (fun n => idx n 0 ns) 0 ns with
        | some args', some σin =>
          (match T g with | some S => S.ex args' σin | none => fun K => exRes P (resT P g) fun v => K v []) fun v σout =>
            ACalls P g args' σin v σout ∧ callB ns nsF nm K v σout
        | _, _ => False
      else False
    | none => False
  else False

section
variable {P : Program} {w : World} {β : Beta} {ok : Nat → Prop} {σ : Heap} {nm : Nat} {F : Nat → Option Blk}

theorem scal_rep {β' : Beta} {ok' : Nat → Prop} {w' : World} {v : AV} {x : Value} (hs : scal v = true) (h : ARep w β ok v x) : ARep w' β' ok' v x := by
  have one : ∀ (a : AV) (y : Value), scal1 a = true → ARep w β ok a y → ARep w' β' ok' a y := by
    intro a y ha hy
    cases a with
    | b t => rw [rep_bool hy]; exact .p (.b t)
    | i k n => rw [rep_int hy]; exact .p (.i k n)
    | s t => rw [rep_str hy]; exact .p (.s t)
    | _ => simp [scal1] at ha
  unfold scal at hs
  split at hs
  · rename_i vs
    obtain ⟨V, rfl, h1, h2⟩ := rep_tup h
    exact .tup h1 (fun j a y ha hy => one a y (List.all_eq_true.1 hs a (List.mem_iff_getElem?.2 ⟨j, ha⟩)) (h2 j a y ha hy))
  · rename_i vs
    obtain ⟨V, rfl, ⟨h1, h2⟩, h3⟩ := rep_ag h
    exact .ag h1 h3 (fun j a y ha hy => one a y (List.all_eq_true.1 hs a (List.mem_iff_getElem?.2 ⟨j, ha⟩)) (h2 j a y ha hy))
  · exact one _ _ hs h

theorem memN_iff {n : Nat} : ∀ {l : List Nat}, memN n l = true ↔ n ∈ l
  | [] => by simp [memN]
  | m :: r => by
    simp only [memN, Bool.or_eq_true, List.mem_cons, memN_iff]
    constructor
    · rintro (h | h)
      · exact .inl (beq_nat h)
      · exact .inr h
    · rintro (h | h)
      · subst h; exact .inl (Nat.beq_refl n)
      · exact .inr h
theorem nodupN_iff : ∀ {l : List Nat}, nodupN l = true → l.Nodup
  | [], _ => List.nodup_nil
  | n :: r, h => by
    simp only [nodupN, Bool.and_eq_true, Bool.not_eq_true'] at h
    refine List.nodup_cons.2 ⟨fun hm => ?_, nodupN_iff h.2⟩
    rw [memN_iff.2 hm] at h
    simp at h

theorem look_hsets : ∀ (bs : Heap) (σ : Heap) (k : Nat), (∃ c, look k (hsets bs σ) = some c ∧ (k, c) ∈ bs) ∨ (look k (hsets bs σ) = look k σ ∧ ∀ c, (k, c) ∉ bs)
  | [], σ, k => .inr ⟨rfl, by simp⟩
  | (n, c) :: r, σ, k => by
    simp only [hsets]
    rcases look_hsets r (hset n c σ) k with ⟨d, h1, h2⟩ | ⟨h1, h2⟩
    · exact .inl ⟨d, h1, List.mem_cons_of_mem _ h2⟩
    · rw [look_hset] at h1
      by_cases e : k = n
      · subst e
        rw [if_pos rfl] at h1
        exact .inl ⟨c, h1, by simp⟩
      · rw [if_neg e] at h1
        refine .inr ⟨h1, fun d hd => ?_⟩
        rcases List.mem_cons.1 hd with hd | hd
        · simp at hd; exact e hd.1
        · exact h2 d hd

theorem idx_some : ∀ {l : List Nat} {k n i : Nat}, idx n k l = some i → k ≤ i ∧ l[i - k]? = some n
  | [], k, n, i, h => by simp [idx] at h
  | m :: r, k, n, i, h => by
    unfold idx at h
    cases hb : Nat.beq n m with
    | true =>
      rw [hb] at h
      simp only [cond_true, Option.some.injEq] at h
      subst h
      have := beq_nat hb
      subst this
      exact ⟨Nat.le_refl _, by simp⟩
    | false =>
      rw [hb] at h
      simp only [cond_false] at h
      obtain ⟨h1, h2⟩ := idx_some h
      refine ⟨by omega, ?_⟩
      rw [show i - k = (i - (k + 1)) + 1 by omega]
      simpa using h2

theorem frzArgs_sound {frz : Nat → Bool} (hm : Mem w β ok σ) (hF : ∀ n c, F n = some c → look n σ = some c) {ok' : Nat → Prop} (ho : ∀ g, ok g → ok' g) : ∀ (args : List AV) (k : Nat) (fargs : List AV) (nsF : List Nat) (vs : List Value),
    frzArgs frz F k args = some (fargs, nsF) → (∀ n c g, n ∈ nsF → look n σ = some c → blockOf β n = some g → ok' g) →
    (args.length = vs.length ∧ ∀ (j : Nat) (a : AV) (x : Value), args[j]? = some a → vs[j]? = some x → ARep w β ok a x) →
    fargs.length = vs.length ∧ ∀ (j : Nat) (a : AV) (x : Value), fargs[j]? = some a → vs[j]? = some x → ARep w β ok' a x
  | [], k, fargs, nsF, vs, h, hok, hr => by
    simp only [frzArgs, Option.some.injEq, Prod.mk.injEq] at h
    obtain ⟨rfl, rfl⟩ := h
    exact ⟨hr.1, fun j a x ha => by simp at ha⟩
  | v :: r, k, fargs, nsF, [], h, hok, hr => by simp at hr
  | v :: r, k, fargs, nsF, x :: vs, h, hok, hr => by
    unfold frzArgs at h
    split at h
    · rename_i a n l m h1 h2
      simp only [Option.some.injEq, Prod.mk.injEq] at h
      obtain ⟨rfl, rfl⟩ := h
      obtain ⟨e1, e2⟩ := frzArgs_sound hm hF ho r (k + 1) l m vs h2 (fun n' c g hn => hok n' c g (List.mem_append_right _ hn))
        ⟨by simpa using hr.1, fun j a x ha hx => hr.2 (j + 1) a x (by simpa using ha) (by simpa using hx)⟩
      refine ⟨by simpa using e1, fun j b y hb hy => ?_⟩
      cases j with
      | zero =>
        simp at hb hy
        subst hb
        subst hy
        have h0 := hr.2 0 v x rfl rfl
        cases hf : frz k with
        | true =>
          rw [hf] at h1
          exact .p (fz_sound hm hF ho 20 v a n x h1 h0 (fun n' c g hn => hok n' c g (List.mem_append_left _ hn)))
        | false =>
          rw [hf] at h1
          simp only [cond_false, Option.some.injEq, Prod.mk.injEq] at h1
          obtain ⟨rfl, _⟩ := h1
          exact h0.mono (fun _ _ => rfl) ho (.refl _)
      | succ j => exact e2 j b y (by simpa using hb) (by simpa using hy)
    · simp at h

theorem inBlks_look {m : Nat → Option Nat} : ∀ {ns : List Nat} {k : Nat} {σin : Heap}, inBlks F m k ns = some σin →
    σin.length = ns.length ∧ ∀ (i : Nat) (b' : Blk), look i σin = some b' → k ≤ i ∧ ∃ n b, ns[i - k]? = some n ∧ F n = some b ∧ renBlk m b = some b'
  | [], k, σin, h => by
    simp [inBlks] at h
    subst h
    exact ⟨rfl, fun i b' hl => by simp [look] at hl⟩
  | n :: r, k, σin, h => by
    unfold inBlks at h
    split at h
    · rename_i b l h1 h2
      split at h
      · rename_i b' h3
        injection h with h
        subst h
        obtain ⟨e1, e2⟩ := inBlks_look h2
        refine ⟨by simp [e1], fun i b0 hl => ?_⟩
        rw [look_cons] at hl
        split at hl
        · rename_i e
          subst e
          injection hl with hl
          subst hl
          exact ⟨Nat.le_refl _, n, b, by simp, h1, h3⟩
        · obtain ⟨g1, n', b1, g2, g3, g4⟩ := e2 i b0 hl
          refine ⟨by omega, n', b1, ?_, g3, g4⟩
          rw [show i - k = (i - (k + 1)) + 1 by omega]
          simpa using g2
      · simp at h
    · simp at h

theorem inBlks_all {m : Nat → Option Nat} : ∀ {ns : List Nat} {k : Nat} {σin : Heap}, inBlks F m k ns = some σin → ∀ n ∈ ns, ∃ b, F n = some b
  | [], k, σin, h, n, hn => by simp at hn
  | n0 :: r, k, σin, h, n, hn => by
    unfold inBlks at h
    split at h
    · rename_i b l h1 h2
      rcases List.mem_cons.1 hn with e | hn
      · subst e; exact ⟨b, h1⟩
      · exact inBlks_all h2 n hn
    · simp at h

theorem outBlks_mem {m : Nat → Option Nat} : ∀ {s s' : Heap}, outBlks m s = some s' → ∀ (n : Nat) (b' : Blk), (n, b') ∈ s' → ∃ i b, (i, b) ∈ s ∧ m i = some n ∧ renBlk m b = some b'
  | [], s', h, n, b', hm => by
    simp [outBlks] at h
    subst h
    simp at hm
  | (i, b) :: r, s', h, n, b', hm => by
    unfold outBlks at h
    split at h
    · rename_i n0 b0 l h1 h2 h3
      injection h with h
      subst h
      rcases List.mem_cons.1 hm with e | hm
      · injection e with e1 e2
        subst e1
        subst e2
        exact ⟨i, b, by simp, h1, h2⟩
      · obtain ⟨i', b1, g1, g2, g3⟩ := outBlks_mem h3 n b' hm
        exact ⟨i', b1, List.mem_cons_of_mem _ g1, g2, g3⟩
    · simp at h

/-- Nothing that was there has been written. -/
theorem OpOK.same {w' : World} (hm : Mem w β ok σ) (hf : Fr (fun _ => False) w w') : OpOK w β ok σ nm w' β ok .none where
  mem := ⟨fun n c hc => (hm.blks n c hc).mono (fun g hg => hf.block g (hm.oklt g hg) id) (fun _ h => h) (.refl _) (fun g hg => hf.block g ((hm.blks n c hc).block.2 g hg) id), hm.inj, hm.ro, fun g hg => Nat.lt_of_lt_of_le (hm.oklt g hg) hf.size⟩
  ext := .refl _
  len := rfl
  okm := fun _ h => h
  fr := hf.mono (fun _ h => h.elim)
  lv := fun g h => .inl h
  okn := fun g h => .inl h
  res := fun m _ h => h
end
end Go.AM
