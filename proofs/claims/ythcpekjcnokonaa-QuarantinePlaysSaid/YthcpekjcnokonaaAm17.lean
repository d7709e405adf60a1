/- The operations of a region, one after the other in the order of the text; what they read and write; when two may change places. -/
import Derived.Test.YthcpekjcnokonaaAm16
set_option linter.unusedVariables false
set_option linter.unusedSimpArgs false
namespace Go.AM
open Go.RowKit

/-- The state of a call: slots, live blocks, how many names there are, how many slots. -/
structure St where
  t : List (Nat × AV)
  σ : Heap
  n : Nat
  m : Nat

/-- What an operand is; of the slots those in R alone are looked at. -/
def evR (R : List Nat) (t : List (Nat × AV)) : Operand → Option AV
  | .tmp k => bif memN k R then look k t else none
  | .const v => ofConst v
  | .func f => some (.fn f [] [])
  | .global _ => none
def restr (N : List Nat) (σ : Heap) (n : Nat) : Option Blk := bif memN n N then look n σ else none

def tmpsOf : List Operand → List Nat
  | [] => []
  | .tmp k :: r => k :: tmpsOf r
  | _ :: r => tmpsOf r
def opR (o : Oper) : List Nat := tmpsOf o.op.operands.toList
def valsOf (ρ : Env) : List Operand → List AV
  | [] => []
  | x :: r => match ρ x with
    | some v => v :: valsOf ρ r
    | none => valsOf ρ r
def needN (o : Oper) (t : List (Nat × AV)) (σ : Heap) : List Nat :=
  let ns := dedup ((valsOf (evR (opR o) t) o.op.operands.toList).flatMap (refs 20)) []
  match o.op with
  | .call c => match c.callee with
    | .value _ => clo (fun n => look n σ) 4 ns
    | _ => ns
  | _ => ns
def putT (d : Option Nat) (v : AV) (t : List (Nat × AV)) : List (Nat × AV) :=
  match d with
  | some d => tset d v t
  | none => t
def dstOk (d : Option Nat) (m : Nat) : Bool :=
  match d with
  | some d => Nat.blt d m
  | none => true
def Upd.writes (nm : Nat) : Upd → List Nat
  | .none => []
  | .new _ => [nm]
  | .put n _ => [n]
  | .app n _ => [n, nm]
  | .del ns => ns
  | .call ns bs => ns ++ bs.map (·.1)

/-- The slot that a guard looks at. -/
def guardT (ops : List Oper) (o : Oper) : Option (Nat × Bool) :=
  match o.guard with
  | some (j, want) => match ops[j]? with
    | some q => q.dst.map fun d => (d, want)
    | none => none
  | none => none

structure FP where
  i : Nat
  N : List Nat
  W : List Nat

def evOps (P : Program) (T : Nat → Option CSpec) (ops : List Oper) (base : Nat) : List Oper → Nat → St → List FP → (St → List FP → Prop) → Prop
  | [], _, s, fps, K => K s fps
  | o :: r, i, s, fps, K =>
    let run := fun (s : St) =>
      let N := needN o s.t s.σ
      stepK P T o (base + i) (evR (opR o) s.t) (restr N s.σ) fun v u =>
        evOps P T ops base r (i + 1) { s with t := putT o.dst v s.t, σ := u.apply (base + i) s.σ } (⟨i, N, u.writes (base + i)⟩ :: fps) K
    bif dstOk o.dst s.m then
      match o.guard with
      | none => run s
      | some _ => match guardT ops o with
        | some (d, want) => match look d s.t with
          | some (.b x) =>
            let go := fun (b : Bool) =>
              bif b == want then run { s with t := tset d (.b b) s.t }
              else evOps P T ops base r (i + 1) { s with t := putT o.dst (.tup []) (tset d (.b b) s.t) } (⟨i, [], []⟩ :: fps) K
            brP x (go true) (go false)
          | some (.tup []) => evOps P T ops base r (i + 1) { s with t := putT o.dst (.tup []) s.t } (⟨i, [], []⟩ :: fps) K
          | _ => False
        | none => False
    else False

/-! ### The same, as a chain of effects -/
structure Eff where
  v : AV
  u : Upd
  N : List Nat
  run : Bool

def wantedAV (ops : List Oper) (o : Oper) (t : List (Nat × AV)) : Option Bool :=
  match o.guard with
  | none => some true
  | some _ => match guardT ops o with
    | some (d, want) => match look d t with
      | some (.b x) => some (x == want)
      | some (.tup []) => some false
      | _ => none
    | none => none

def OStep (P : Program) (T : Nat → Option CSpec) (ops : List Oper) (base i : Nat) (s : St) (e : Eff) : Prop :=
  ∃ o, ops[i]? = some o ∧ dstOk o.dst s.m = true ∧
    ((e.run = true ∧ wantedAV ops o s.t = some true ∧ stepK P T o (base + i) (evR (opR o) s.t) (restr e.N s.σ) (fun v u => v = e.v ∧ u = e.u)) ∨
     (e.run = false ∧ wantedAV ops o s.t = some false ∧ e.v = .tup [] ∧ e.u = .none ∧ e.N = []))
def dstAt (ops : List Oper) (i : Nat) : Option Nat := (ops[i]?).bind (·.dst)
def applyE (ops : List Oper) (base i : Nat) (e : Eff) (s : St) : St := { s with t := putT (dstAt ops i) e.v s.t, σ := e.u.apply (base + i) s.σ }

structure SEq (s s' : St) : Prop where
  t : ∀ k, look k s.t = look k s'.t
  σ : ∀ n, look n s.σ = look n s'.σ
  n : s.n = s'.n
  m : s.m = s'.m
theorem SEq.refl (s : St) : SEq s s := ⟨fun _ => rfl, fun _ => rfl, rfl, rfl⟩
theorem SEq.symm {s s' : St} (h : SEq s s') : SEq s' s := ⟨fun k => (h.t k).symm, fun n => (h.σ n).symm, h.n.symm, h.m.symm⟩
theorem SEq.trans {a b c : St} (h : SEq a b) (k : SEq b c) : SEq a c := ⟨fun i => (h.t i).trans (k.t i), fun i => (h.σ i).trans (k.σ i), h.n.trans k.n, h.m.trans k.m⟩

def Chain (P : Program) (T : Nat → Option CSpec) (ops : List Oper) (base : Nat) : List (Nat × Eff) → St → St → Prop
  | [], s, s' => SEq s s'
  | (i, e) :: r, s, s' => OStep P T ops base i s e ∧ Chain P T ops base r (applyE ops base i e s) s'

theorem look_putT (d : Option Nat) (v : AV) (t : List (Nat × AV)) (k : Nat) : look k (putT d v t) = if some k = d then some v else look k t := by
  cases d with
  | none => simp [putT]
  | some d => simp [putT, look_tset]
theorem look_hsets_congr : ∀ (bs : Heap) (σ σ' : Heap) (k : Nat), look k σ = look k σ' → look k (hsets bs σ) = look k (hsets bs σ')
  | [], σ, σ', k, h => h
  | (n, c) :: r, σ, σ', k, h => by
    simp only [hsets]
    refine look_hsets_congr r _ _ k ?_
    rw [look_hset, look_hset, h]
theorem look_hsets_out : ∀ (bs : Heap) (σ : Heap) (k : Nat), k ∉ bs.map (·.1) → look k (hsets bs σ) = look k σ
  | [], σ, k, h => rfl
  | (n, c) :: r, σ, k, h => by
    simp only [List.map_cons, List.mem_cons, not_or] at h
    simp only [hsets]
    rw [look_hsets_out r _ k h.2, look_hset, if_neg h.1]
theorem look_hsets_in : ∀ (bs : Heap) (σ σ' : Heap) (k : Nat), k ∈ bs.map (·.1) → look k (hsets bs σ) = look k (hsets bs σ')
  | [], σ, σ', k, h => by simp at h
  | (n, c) :: r, σ, σ', k, h => by
    simp only [hsets]
    by_cases hr : k ∈ r.map (·.1)
    · exact look_hsets_in r _ _ k hr
    · simp only [List.map_cons, List.mem_cons] at h
      have hk : k = n := h.resolve_right hr
      rw [look_hsets_out r _ k hr, look_hsets_out r _ k hr, look_hset, look_hset, if_pos hk, if_pos hk]

/-- Where an update does not write, all is as it was; where it writes, what it leaves does not hang on what was there. -/
theorem apply_out {u : Upd} {nm : Nat} {σ : Heap} {k : Nat} (h : k ∉ u.writes nm) : look k (u.apply nm σ) = look k σ := by
  cases u with
  | none => rfl
  | new c => simp only [Upd.writes, List.mem_singleton] at h; simp only [Upd.apply, look_hset, if_neg h]
  | put n c => simp only [Upd.writes, List.mem_singleton] at h; simp only [Upd.apply, look_hset, if_neg h]
  | app n c => simp only [Upd.writes, List.mem_cons, List.not_mem_nil, or_false, not_or] at h; simp only [Upd.apply, look_hset, look_hdel, if_neg h.1, if_neg h.2]
  | del ns => simp only [Upd.writes] at h; simp only [Upd.apply, look_hdels, if_neg h]
  | call ns bs =>
    simp only [Upd.writes, List.mem_append, not_or] at h
    simp only [Upd.apply]
    rw [look_hsets_out _ _ _ h.2, look_hdels, if_neg h.1]
theorem apply_in {u : Upd} {nm : Nat} {σ σ' : Heap} {k : Nat} (h : k ∈ u.writes nm) : look k (u.apply nm σ) = look k (u.apply nm σ') := by
  cases u with
  | none => simp [Upd.writes] at h
  | new c => simp only [Upd.writes, List.mem_singleton] at h; simp only [Upd.apply, look_hset, if_pos h]
  | put n c => simp only [Upd.writes, List.mem_singleton] at h; simp only [Upd.apply, look_hset, if_pos h]
  | app n c =>
    simp only [Upd.writes, List.mem_cons, List.not_mem_nil, or_false] at h
    simp only [Upd.apply, look_hset, look_hdel]
    by_cases e : k = nm
    · rw [if_pos e, if_pos e]
    · rw [if_neg e, if_neg e, if_pos (h.resolve_right e), if_pos (h.resolve_right e)]
  | del ns => simp only [Upd.writes] at h; simp only [Upd.apply, look_hdels, if_pos h]
  | call ns bs =>
    simp only [Upd.writes, List.mem_append] at h
    simp only [Upd.apply]
    by_cases hb : k ∈ bs.map (·.1)
    · exact look_hsets_in _ _ _ _ hb
    · rw [look_hsets_out _ _ _ hb, look_hsets_out _ _ _ hb, look_hdels, look_hdels, if_pos (h.resolve_right hb), if_pos (h.resolve_right hb)]

theorem applyE_congr {ops : List Oper} {base i : Nat} {e : Eff} {s s' : St} (h : SEq s s') : SEq (applyE ops base i e s) (applyE ops base i e s') := by
  refine ⟨fun k => ?_, fun n => ?_, h.n, h.m⟩
  · simp only [applyE, look_putT, h.t k]
  · simp only [applyE]
    by_cases hw : n ∈ e.u.writes (base + i)
    · exact apply_in hw
    · rw [apply_out hw, apply_out hw, h.σ n]

/-- What operation i reads: slots and names. -/
def readT (ops : List Oper) (i : Nat) : List Nat :=
  match ops[i]? with
  | some o => (match guardT ops o with | some (d, _) => d :: opR o | none => opR o)
  | none => []
theorem OStep_congr {P : Program} {T : Nat → Option CSpec} {ops : List Oper} {base i : Nat} {s s' : St} {e : Eff} (ht : ∀ k ∈ readT ops i, look k s.t = look k s'.t) (hn : ∀ n ∈ e.N, look n s.σ = look n s'.σ) (hm : s.m = s'.m)
    (h : OStep P T ops base i s e) : OStep P T ops base i s' e := by
  obtain ⟨o, ho, hd, h⟩ := h
  have hR : ∀ k ∈ opR o, look k s.t = look k s'.t := by
    intro k hk
    refine ht k ?_
    simp only [readT, ho]
    split
    · exact List.mem_cons_of_mem _ hk
    · exact hk
  have hw : wantedAV ops o s.t = wantedAV ops o s'.t := by
    unfold wantedAV
    cases hg : o.guard with
    | none => rfl
    | some g =>
      simp only
      cases hgt : guardT ops o with
      | none => rfl
      | some p =>
        obtain ⟨d, want⟩ := p
        simp only
        rw [ht d (by simp [readT, ho, hgt])]
  have hev : evR (opR o) s.t = evR (opR o) s'.t := by
    funext x
    cases x with
    | tmp k =>
      simp only [evR]
      cases hb : memN k (opR o) with
      | true => simp only [cond_true]; exact hR k (memN_iff.1 hb)
      | false => rfl
    | _ => rfl
  have hF : restr e.N s.σ = restr e.N s'.σ := by
    funext n
    unfold restr
    cases hb : memN n e.N with
    | true => simp only [cond_true]; exact hn n (memN_iff.1 hb)
    | false => rfl
  refine ⟨o, ho, hm ▸ hd, ?_⟩
  rw [← hw, ← hev, ← hF]
  exact h

theorem Chain_congr {P : Program} {T : Nat → Option CSpec} {ops : List Oper} {base : Nat} : ∀ {L : List (Nat × Eff)} {s t s' : St}, SEq s t → Chain P T ops base L s s' → Chain P T ops base L t s'
  | [], s, t, s', h, hc => (h.symm).trans hc
  | (i, e) :: r, s, t, s', h, hc => ⟨OStep_congr (fun k _ => h.t k) (fun n _ => h.σ n) h.m hc.1, Chain_congr (applyE_congr h) hc.2⟩

/-- Two operations that do not meddle with each other. -/
structure Indep (ops : List Oper) (base i : Nat) (e : Eff) (j : Nat) (f : Eff) : Prop where
  t1 : ∀ d, dstAt ops i = some d → d ∉ readT ops j
  t2 : ∀ d, dstAt ops j = some d → d ∉ readT ops i
  t3 : ∀ d, dstAt ops i = some d → dstAt ops j ≠ some d
  n1 : ∀ n ∈ e.u.writes (base + i), n ∉ f.N
  n2 : ∀ n ∈ f.u.writes (base + j), n ∉ e.N
  n3 : ∀ n ∈ e.u.writes (base + i), n ∉ f.u.writes (base + j)

theorem Chain_swap {P : Program} {T : Nat → Option CSpec} {ops : List Oper} {base i j : Nat} {e f : Eff} {L : List (Nat × Eff)} {s s' : St} (hi : Indep ops base i e j f)
    (h : Chain P T ops base ((j, f) :: (i, e) :: L) s s') : Chain P T ops base ((i, e) :: (j, f) :: L) s s' := by
  obtain ⟨h1, h2, h3⟩ := h
  have e1 : OStep P T ops base i s e := by
    refine OStep_congr (s := applyE ops base j f s) (s' := s) (fun k hk => ?_) (fun n hn => ?_) rfl h2
    · simp only [applyE, look_putT]
      rw [if_neg (fun hh => hi.t2 k hh.symm hk)]
    · simp only [applyE]
      exact apply_out (fun hw => hi.n2 n hw hn)
  have e2 : OStep P T ops base j (applyE ops base i e s) f := by
    refine OStep_congr (s := s) (s' := applyE ops base i e s) (fun k hk => ?_) (fun n hn => ?_) rfl h1
    · simp only [applyE, look_putT]
      rw [if_neg (fun hh => hi.t1 k hh.symm hk)]
    · simp only [applyE]
      exact (apply_out (fun hw => hi.n1 n hw hn)).symm
  refine ⟨e1, e2, Chain_congr (s := applyE ops base i e (applyE ops base j f s)) (t := applyE ops base j f (applyE ops base i e s)) ⟨fun k => ?_, fun n => ?_, rfl, rfl⟩ h3⟩
  · simp only [applyE, look_putT]
    by_cases a : some k = dstAt ops i
    · rw [if_pos a, if_neg (fun b => hi.t3 k a.symm b.symm), if_pos a]
    · rw [if_neg a, if_neg a]
  · simp only [applyE]
    by_cases a : n ∈ e.u.writes (base + i)
    · rw [apply_out (hi.n3 n a)]
      exact apply_in a
    · rw [apply_out a]
      by_cases b : n ∈ f.u.writes (base + j)
      · exact apply_in b
      · rw [apply_out b, apply_out b, apply_out a]

/-- The operation that comes first now: it hangs on none of those before it. -/
theorem Chain_first {P : Program} {T : Nat → Option CSpec} {ops : List Oper} {base i : Nat} {e : Eff} {L2 : List (Nat × Eff)} {s' : St} : ∀ (L1 : List (Nat × Eff)) (s : St), (∀ p ∈ L1, Indep ops base i e p.1 p.2) →
    Chain P T ops base (L1 ++ (i, e) :: L2) s s' → Chain P T ops base ((i, e) :: (L1 ++ L2)) s s'
  | [], s, _, h => h
  | (j, f) :: r, s, hi, h => by
    refine Chain_swap (hi (j, f) (by simp)) ⟨h.1, ?_⟩
    exact Chain_first r _ (fun p hp => hi p (List.mem_cons_of_mem _ hp)) h.2
end Go.AM
