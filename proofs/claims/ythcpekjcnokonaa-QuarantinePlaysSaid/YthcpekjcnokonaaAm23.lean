/- At a loop's head: what is no more wanted is dropped, the names are laid anew. -/
import Derived.Test.YthcpekjcnokonaaAm22
set_option linter.unusedVariables false
set_option linter.unusedSimpArgs false
namespace Go.AM
open Go.RowKit

def subT (keep : Nat → Bool) (F : Nat → Option Blk) (m : Nat → Option Nat) (t : List (Nat × AV)) : List Nat → Option (List (Nat × AV) × List Nat)
  | [] => some ([], [])
  | j :: r => match look j t with
    | none => none
    | some v => match rz keep F 20 v, subT keep F m t r with
      | some (v1, ns), some (l, ms) => match ren m 20 v1 with
        | some v2 => some ((j, v2) :: l, ns ++ ms)
        | none => none
      | _, _ => none
/-- The temporaries 'kt', the blocks below k and the blocks 'ex' are kept; these last are named from k on. -/
def subF (k : Nat) (ex kt : List Nat) (s : St) : Option St :=
  match subT (keepN k ex) (fun n => look n s.σ) (outN k ex) s.t kt, outB (keepN k ex) (fun n => look n s.σ) (outN k ex) (List.range k ++ ex) with
  | some (t, n1), some (h, n2) =>
    bif (n1 ++ n2).all (fun n => !keepN k ex n) && nodupN ex then some { t := t, σ := h, n := k + ex.length, m := s.m } else none
  | _, _ => none

section
variable {P : Program} {f : FuncId} {fn : Func} {w : World} {β : Beta} {ok : Nat → Prop} {σ : Heap} {F : Nat → Option Blk}

theorem subT_look {keep : Nat → Bool} {m : Nat → Option Nat} {t : List (Nat × AV)} : ∀ {kt : List Nat} {l : List (Nat × AV)} {ns : List Nat}, subT keep F m t kt = some (l, ns) → ∀ (j : Nat) (v2 : AV), look j l = some v2 →
    ∃ v v1 n0, look j t = some v ∧ rz keep F 20 v = some (v1, n0) ∧ ren m 20 v1 = some v2 ∧ ∀ x ∈ n0, x ∈ ns
  | [], l, ns, hh, j, v2, hl => by
    simp only [subT, Option.some.injEq, Prod.mk.injEq] at hh
    obtain ⟨rfl, _⟩ := hh
    simp [look] at hl
  | i :: r, l, ns, hh, j, v2, hl => by
    unfold subT at hh
    split at hh
    · simp at hh
    · rename_i v hv
      split at hh
      · rename_i v1 n1 l' ms e1 e2
        split at hh
        · rename_i v3 e3
          simp only [Option.some.injEq, Prod.mk.injEq] at hh
          obtain ⟨rfl, rfl⟩ := hh
          rw [look_cons] at hl
          split at hl
          · rename_i e
            subst e
            injection hl with hl
            subst hl
            exact ⟨v, v1, n1, hv, e1, e3, fun x hx => List.mem_append_left _ hx⟩
          · obtain ⟨v', v1', n0, h1, h2, h3, h4⟩ := subT_look e2 j v2 hl
            exact ⟨v', v1', n0, h1, h2, h3, fun x hx => List.mem_append_right _ (h4 x hx)⟩
        · simp at hh
      · simp at hh

/-- What 'outB' makes is good. -/
theorem outB_mem {k : Nat} {ex : List Nat} {h1 : Heap} {n1 n2 : List Nat} (hm : Mem w β ok σ) (hout : outB (keepN k ex) (fun n => look n σ) (outN k ex) (List.range k ++ ex) = some (h1, n2))
    (hfro : ∀ n ∈ n1 ++ n2, keepN k ex n = false) : Mem w (outBeta k ex β) (okd ok β σ (n1 ++ n2)) h1 ∧ ∀ g, live (outBeta k ex β) h1 g → live β σ g := by
  have ho : ∀ g, ok g → okd ok β σ (n1 ++ n2) g := fun g hg => .inl hg
  have hn2 : ∀ n c g, n ∈ n2 → look n σ = some c → blockOf β n = some g → okd ok β σ (n1 ++ n2) g := fun n c g a1 a2 a3 => .inr ⟨n, c, List.mem_append_right _ a1, a2, a3⟩
  refine ⟨⟨?_, ?_, ?_, ?_⟩, ?_⟩
  · intro i c a1
    obtain ⟨n, bq, b', n0, c1, c2, c3, c4, c5, c6⟩ := outB_look hout i c a1
    exact renBlk_sound outBeta_same c4 c5 (rzBlk_sound hm (fun n c hh => hh) ho c3 (hm.blks n bq c2) (fun n' c' g' d1 d2 d3 => hn2 n' c' g' (c6 n' d1) d2 d3))
  · intro i j c d g hij a1 a2 a3 a4
    obtain ⟨n, bq, b', n0, c1, c2, c3, c4, c5, c6⟩ := outB_look hout i c a1
    obtain ⟨n', bq', b'', n0', d1, d2, d3, d4, d5, d6⟩ := outB_look hout j d a2
    rw [outBeta_block c4] at a3
    rw [outBeta_block d4] at a4
    refine hm.inj n n' bq bq' g (fun hh => hij ?_) c2 d2 a3 a4
    subst hh
    rw [c4] at d4
    injection d4
  · intro i c g a1 a2 a3
    obtain ⟨n, bq, b', n0, c1, c2, c3, c4, c5, c6⟩ := outB_look hout i c a1
    rw [outBeta_block c4] at a2
    rcases a3 with a3 | ⟨n', c', d1, d2, d3⟩
    · exact hm.ro n bq g c2 a2 a3
    · have hk := outN_keep c4
      have hk' := hfro n' d1
      refine hm.inj n n' bq c' g (fun hh => ?_) c2 d2 a2 d3
      subst hh
      rw [hk] at hk'
      exact Bool.noConfusion hk'
  · rintro g (hg | ⟨n', c', d1, d2, d3⟩)
    · exact hm.oklt g hg
    · exact (hm.blks n' c' d2).block.2 g d3
  · rintro g ⟨i, c, a1, a2⟩
    obtain ⟨n, bq, b', n0, c1, c2, c3, c4, c5, c6⟩ := outB_look hout i c a1
    exact ⟨n, bq, c2, by rw [← outBeta_block c4]; exact a2⟩

theorem Runs.sub {kk : Nat} {todo : List Item} {s s' : St} {R : AV → St → Prop} {ex kt : List Nat} (h : subF kk ex kt s = some s') (hk : Runs P f kk todo s' R) : Runs P f kk todo s R := by
  intro w β ok a b cs h1 h2 h3 h4
  unfold subF at h
  split at h
  · rename_i t n1 hp n2 ht hout
    cases hbb : ((n1 ++ n2).all (fun n => !keepN kk ex n) && nodupN ex) with
    | false => rw [hbb] at h; simp at h
    | true =>
      rw [hbb] at h
      simp only [cond_true, Option.some.injEq] at h
      subst h
      simp only [Bool.and_eq_true, List.all_eq_true, Bool.not_eq_true'] at hbb
      obtain ⟨hm, hlv⟩ := outB_mem h4.mem hout hbb.1
      have ho : ∀ g, ok g → okd ok β s.σ (n1 ++ n2) g := fun g hg => .inl hg
      have hlen : (outBeta kk ex β).length = kk + ex.length := by simp [outBeta]
      obtain ⟨x, w', fr', ⟨v, s', β', ok', r1, r2, r3, r4⟩, g2, g3, g4⟩ := hk w (outBeta kk ex β) (okd ok β s.σ (n1 ++ n2)) a b cs h1 h2 h3 ⟨hlen, h4.size, fun j v2 hj => by
        obtain ⟨v, v1, n0, c1, c2, c3, c4⟩ := subT_look ht j v2 hj
        exact ren_sound outBeta_same 20 v1 v2 _ c3 (rz_sound h4.mem (fun n c hh => hh) ho 20 v v1 n0 _ c2 (h4.tm j v c1) (fun n c g d1 d2 d3 => .inr ⟨n, c, List.mem_append_left _ (c4 n d1), d2, d3⟩)), hm⟩
      have hfrz : ∀ g, (∃ n c, n ∈ n1 ++ n2 ∧ look n s.σ = some c ∧ blockOf β n = some g) → live β s.σ g := fun g ⟨n, c, _, a1, a2⟩ => ⟨n, c, a1, a2⟩
      refine ⟨x, w', fr', ⟨v, s', β', ok', r1, r2, r3, ⟨fun n y hn hy => r4.ext n y hn ?_, fun g hg => r4.okm g (.inl hg), r4.fr.mono (fun g hg => hlv g hg), fun g hg => (r4.lv g hg).imp (hlv g) id, fun g hg => ?_⟩⟩, g2, g3, g4⟩
      · have : outN kk ex n = some n := by
          have hb : Nat.blt n kk = true := by rw [Nat.blt_eq]; exact hn
          unfold outN
          rw [hb]
          rfl
        exact outBeta_same n n y this hy
      · rcases r4.okn g hg with (hg | hg) | hg | hg
        · exact .inl hg
        · exact .inr (.inl (hfrz g hg))
        · exact .inr (.inl (hlv g hg))
        · exact .inr (.inr hg)
  · simp at h

/-! ### A nil slice, taken for a row of its own -/
def promT (e sz j : Nat) (s : St) : Option St :=
  match look j s.t with
  | some .nil => some { s with t := tset j (.own s.n) s.t, σ := hset s.n (.row e sz []) s.σ, n := s.n + 1 }
  | _ => none
def setNth (v : AV) : Nat → List AV → List AV
  | _, [] => []
  | 0, _ :: r => v :: r
  | i + 1, x :: r => x :: setNth v i r
def promC (e sz b i : Nat) (s : St) : Option St :=
  match look b s.σ with
  | some (.cells cs) => match cs[i]? with
    | some .nil => some { s with σ := hset s.n (.row e sz []) (hset b (.cells (setNth (.own s.n) i cs)) s.σ), n := s.n + 1 }
    | _ => none
  | _ => none

/-! ### Where the loops are -/
def firstR : Code → Nat → Option Nat
  | c, 0 => none
  | .seq x y, n + 1 => match firstR x n with
    | some r => some r
    | none => firstR y n
  | .cond _ x y, n + 1 => match firstR x n with
    | some r => some r
    | none => firstR y n
  | .block _ x, n + 1 => firstR x n
  | .loop x, n + 1 => firstR x n
  | .region i _ _, _ => some i
  | _, _ => none
/-- What stands at the head of the loop whose first region is 'id'. -/
def headOf (id : Nat) : Nat → Code → List Item → Option (List Item)
  | 0, _, _ => none
  | n + 1, .seq x y, k => match headOf id n x (.code y :: k) with
    | some r => some r
    | none => headOf id n y k
  | n + 1, .cond _ x y, k => match headOf id n x k with
    | some r => some r
    | none => headOf id n y k
  | n + 1, .block b x, k => headOf id n x (.inBlock b :: k)
  | n + 1, .loop x, k => match firstR x 100 with
    | some i => bif Nat.beq i id then some (.code x :: .inLoop x :: k) else headOf id n x (.inLoop x :: k)
    | none => headOf id n x (.inLoop x :: k)
  | n + 1, .region i ops d, k => bif Nat.beq i id then some (.code (.region i ops d) :: k) else none
  | _, _, _ => none
/-- The first region of the code that stands first. -/
def keyOf : List Item → Nat
  | .code c :: _ => (firstR c 100).getD 0
  | _ => 0
/-- The rest of the code is L. -/
def AtL (L todo : List Item) : Prop := todo = L

end

/-- What 'subF' leaves is such a state. -/
def HeadK (o : Option St) (I : St → Prop) : Prop :=
  match o with
  | some s => I s
  | none => False
theorem Runs.head {P : Program} {f : FuncId} {kk : Nat} {todo L : List Item} {s : St} {R : AV → St → Prop} {I : St → Prop} {ex kt : List Nat} (h : AtL L todo ∧ HeadK (subF kk ex kt s) I)
    (hI : ∀ s', I s' → Runs P f kk L s' R) : Runs P f kk todo s R := by
  obtain ⟨rfl, h2⟩ := h
  cases hs : subF kk ex kt s with
  | none => rw [hs] at h2; exact h2.elim
  | some s' =>
    rw [hs] at h2
    exact Runs.sub hs (hI s' h2)

/-! ### Short forms -/
def bodyF (fn : Func) : Code := fn.body.getD .skip
/-- The head of the loop whose first region is 'id'. -/
def hd (fn : Func) (id : Nat) : List Item := (headOf id 200 (bodyF fn) []).getD []
/-- The whole call. -/
def evF (P : Program) (T : Nat → Option CSpec) (fn : Func) (stop : List Nat) (KS : List Item → St → Prop) (args : List AV) (σ : Heap) (ex : List Nat) (v : AV) (σ' : Heap) : Prop :=
  ev P T fn stop KS (RetR σ.length ex v σ') 1000 [.code (bodyF fn)] (initSt fn args σ)
/-- From a loop's head (or a region) on. -/
def evL (P : Program) (T : Nat → Option CSpec) (fn : Func) (stop : List Nat) (KS : List Item → St → Prop) (id : Nat) (s : St) (kk : Nat) (ex : List Nat) (v : AV) (σ' : Heap) : Prop :=
  ev P T fn stop KS (RetR kk ex v σ') 1000 (hd fn id) s
theorem acalls_ev {P : Program} {T : Nat → Option CSpec} {f : FuncId} {fn : Func} {stop : List Nat} {KS : List Item → St → Prop} {args : List AV} {σ : Heap} {ex : List Nat} {v : AV} {σ' : Heap} (hf : P.funcs[f]? = some fn) (hb : fn.body.isSome = true)
    (h : evF P T fn stop KS args σ ex v σ') (hKS : ∀ todo s, KS todo s → Runs P f σ.length todo s (RetR σ.length ex v σ')) : ACalls P f args σ v σ' := by
  cases hbb : fn.body with
  | none => rw [hbb] at hb; simp at hb
  | some body =>
    refine acalls_of ex hf hbb (ev_sound (T := T) (stop := stop) hf hKS 1000 _ _ ?_)
    have e : bodyF fn = body := by simp [bodyF, hbb]
    unfold evF at h
    rw [e] at h
    exact h
theorem runs_ev {P : Program} {T : Nat → Option CSpec} {f : FuncId} {fn : Func} {stop : List Nat} {KS : List Item → St → Prop} {id : Nat} {s : St} {kk : Nat} {ex : List Nat} {v : AV} {σ' : Heap} (hf : P.funcs[f]? = some fn)
    (h : evL P T fn stop KS id s kk ex v σ') (hKS : ∀ todo s, KS todo s → Runs P f kk todo s (RetR kk ex v σ')) : Runs P f kk (hd fn id) s (RetR kk ex v σ') :=
  ev_sound hf hKS 1000 _ _ h
/-- Nowhere to stop. -/
def noK : List Item → St → Prop := fun _ _ => False
/-- At one loop's head. -/
def atK (kk : Nat) (L : List Item) (ex kt : List Nat) (I : St → Prop) : List Item → St → Prop := fun todo s => AtL L todo ∧ HeadK (subF kk ex kt s) I
end Go.AM
