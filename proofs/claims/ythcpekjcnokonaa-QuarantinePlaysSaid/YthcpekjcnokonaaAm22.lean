/- A function's contract out of its evaluation: the first state, and what is handed back. -/
import Derived.Test.YthcpekjcnokonaaAm21
set_option linter.unusedVariables false
set_option linter.unusedSimpArgs false
namespace Go.AM
open Go.RowKit

def keepN (k : Nat) (ex : List Nat) (n : Nat) : Bool := Nat.blt n k || memN n ex
/-- What is handed back: what is not kept live is frozen. -/
def rz (keep : Nat → Bool) (F : Nat → Option Blk) : Nat → AV → Option (AV × List Nat)
  | 0, _ => none
  | j + 1, v =>
    match v with
    | .own n => bif keep n then some (.own n, []) else fz F 20 (.own n)
    | .row n sz off len => bif keep n then some (.row n sz off len, []) else fz F 20 (.row n sz off len)
    | .ptr n off => bif keep n then some (.ptr n off, []) else fz F 20 (.ptr n off)
    | .eptr n sz i off => bif keep n then some (.eptr n sz i off, []) else none
    | .mp n => bif keep n then some (.mp n, []) else none
    | .fv n sz off len cap => bif keep n then some (.fv n sz off len cap, []) else none
    | .ag cs => match mapO (rz keep F j) cs with
      | some (l, ns) => some (.ag l, ns)
      | none => none
    | .tup cs => match mapO (rz keep F j) cs with
      | some (l, ns) => some (.tup l, ns)
      | none => none
    | .fn f p q => match mapO (rz keep F j) p, mapO (rz keep F j) q with
      | some (l, ns), some (m, ms) => some (.fn f l m, ns ++ ms)
      | _, _ => none
    | v => fz F 20 v
def rzBlk (keep : Nat → Bool) (F : Nat → Option Blk) : Blk → Option (Blk × List Nat)
  | .cells cs => match mapO (rz keep F 20) cs with
    | some (l, ns) => some (.cells l, ns)
    | none => none
  | b => some (b, [])
def outB (keep : Nat → Bool) (F : Nat → Option Blk) (m : Nat → Option Nat) : List Nat → Option (Heap × List Nat)
  | [] => some ([], [])
  | n :: r => match F n with
    | none => outB keep F m r
    | some b => match rzBlk keep F b, m n, outB keep F m r with
      | some (b', ns), some i, some (h, ms) => match renBlk m b' with
        | some b'' => some ((i, b'') :: h, ns ++ ms)
        | none => none
      | _, _, _ => none
def outN (k : Nat) (ex : List Nat) (n : Nat) : Option Nat := bif Nat.blt n k then some n else idx n k ex
def retF (k : Nat) (ex : List Nat) (v : AV) (s : St) : Option (AV × Heap) :=
  match rz (keepN k ex) (fun n => look n s.σ) 20 v, outB (keepN k ex) (fun n => look n s.σ) (outN k ex) (List.range k ++ ex) with
  | some (v1, n1), some (h, n2) =>
    bif (n1 ++ n2).all (fun n => !keepN k ex n) && nodupN ex then
      match ren (outN k ex) 20 v1 with
      | some v2 => some (v2, h)
      | none => none
    else none
  | _, _ => none
/-- The call hands back v and leaves σ'. -/
def RetR (k : Nat) (ex : List Nat) (v : AV) (σ' : Heap) (v0 : AV) (s : St) : Prop :=
  match retF k ex v0 s with
  | some (a, h) => a = v ∧ h = σ'
  | none => False

def zipT : Nat → List AV → List (Nat × AV)
  | _, [] => []
  | k, v :: r => (k, v) :: zipT (k + 1) r
def initSt (fn : Func) (args : List AV) (σ : Heap) : St := { t := zipT 0 args, σ := σ, n := σ.length, m := bif Nat.ble args.length fn.ntmps then fn.ntmps else args.length }

section
variable {P : Program} {f : FuncId} {fn : Func} {w : World} {β : Beta} {ok : Nat → Prop} {σ : Heap} {F : Nat → Option Blk}

theorem look_zipT : ∀ (l : List AV) (k j : Nat) (v : AV), look j (zipT k l) = some v → k ≤ j ∧ l[j - k]? = some v
  | [], k, j, v, h => by simp [zipT, look] at h
  | a :: r, k, j, v, h => by
    simp only [zipT, look_cons] at h
    split at h
    · rename_i e
      subst e
      injection h with h
      subst h
      simp
    · obtain ⟨h1, h2⟩ := look_zipT r (k + 1) j v h
      refine ⟨by omega, ?_⟩
      rw [show j - k = (j - (k + 1)) + 1 by omega]
      simpa using h2

theorem rz_sound {keep : Nat → Bool} {ok' : Nat → Prop} (hm : Mem w β ok σ) (hF : ∀ n c, F n = some c → look n σ = some c) (ho : ∀ g, ok g → ok' g) : ∀ (k : Nat) (v v' : AV) (ns : List Nat) (x : Value),
    rz keep F k v = some (v', ns) → ARep w β ok v x → (∀ n c g, n ∈ ns → look n σ = some c → blockOf β n = some g → ok' g) → ARep w β ok' v' x := by
  intro k
  induction k with
  | zero => intro v v' ns x h; simp [rz] at h
  | succ k ih =>
    intro v v' ns x h hx hn
    have many : ∀ (cs l : List AV) (ms : List Nat) (V : Array Value), mapO (rz keep F k) cs = some (l, ms) → RepL w β ok cs V → (∀ m ∈ ms, m ∈ ns) → RepL w β ok' l V := by
      intro cs l ms V hmap hR hsub
      obtain ⟨e1, e2⟩ := mapO_spec hmap
      refine ⟨by rw [e1]; exact hR.1, fun j a y ha hy => ?_⟩
      obtain ⟨v0, n0, g1, g2, g3⟩ := e2 j a ha
      exact ih v0 a n0 y g2 (hR.2 j v0 y g1 hy) (fun n c g h1 h2 h3 => hn n c g (hsub n (g3 n h1)) h2 h3)
    have frozen : ∀ q, fz F 20 q = some (v', ns) → ARep w β ok q x → ARep w β ok' v' x := fun q hq hqx => .p (fz_sound hm hF ho 20 q v' ns x hq hqx hn)
    have kept : ∀ (n : Nat) (q : AV) (o : Option (AV × List Nat)), (bif keep n then some (q, ([] : List Nat)) else o) = some (v', ns) → ARep w β ok q x → (o = some (v', ns) → ARep w β ok' v' x) → ARep w β ok' v' x := by
      intro n q o hh hu ho'
      cases hk : keep n with
      | true =>
        rw [hk] at hh
        simp only [cond_true, Option.some.injEq, Prod.mk.injEq] at hh
        obtain ⟨rfl, _⟩ := hh
        exact hu.mono (fun _ _ => rfl) ho (.refl _)
      | false => rw [hk] at hh; exact ho' hh
    unfold rz at h
    split at h
    · exact kept _ _ _ h hx (fun h => frozen _ h hx)
    · exact kept _ _ _ h hx (fun h => frozen _ h hx)
    · exact kept _ _ _ h hx (fun h => frozen _ h hx)
    · exact kept _ _ _ h hx (fun h => by simp at h)
    · exact kept _ _ _ h hx (fun h => by simp at h)
    · exact kept _ _ _ h hx (fun h => by simp at h)
    · rename_i cs
      split at h
      · rename_i l ms hfz
        simp only [Option.some.injEq, Prod.mk.injEq] at h
        obtain ⟨rfl, rfl⟩ := h
        obtain ⟨V, rfl, hR, hO⟩ := rep_ag hx
        obtain ⟨r1, r2⟩ := many cs l ms V hfz hR (fun m hm => hm)
        exact .ag r1 hO r2
      · simp at h
    · rename_i cs
      split at h
      · rename_i l ms hfz
        simp only [Option.some.injEq, Prod.mk.injEq] at h
        obtain ⟨rfl, rfl⟩ := h
        obtain ⟨V, rfl, hR⟩ := rep_tup hx
        obtain ⟨r1, r2⟩ := many cs l ms V hfz hR (fun m hm => hm)
        exact .tup r1 r2
      · simp at h
    · rename_i g p q
      split at h
      · rename_i l ms1 m ms2 h1 h2
        simp only [Option.some.injEq, Prod.mk.injEq] at h
        obtain ⟨rfl, rfl⟩ := h
        obtain ⟨A, B, rfl, hA, hB⟩ := rep_fn hx
        obtain ⟨r1, r2⟩ := many p l ms1 A h1 hA (fun m hm => List.mem_append_left _ hm)
        obtain ⟨r3, r4⟩ := many q m ms2 B h2 hB (fun m hm => List.mem_append_right _ hm)
        exact .fn r1 r3 r2 r4
      · simp at h
    · exact frozen _ h hx

theorem rzBlk_sound {keep : Nat → Bool} {ok' : Nat → Prop} {n : Nat} {b b' : Blk} {ns : List Nat} (hm : Mem w β ok σ) (hF : ∀ n c, F n = some c → look n σ = some c) (ho : ∀ g, ok g → ok' g)
    (h : rzBlk keep F b = some (b', ns)) (hg : GoodBlk w β ok n b) (hn : ∀ n c g, n ∈ ns → look n σ = some c → blockOf β n = some g → ok' g) : GoodBlk w β ok' n b' := by
  cases hg with
  | @cells cs g arr T hb hh hl hr =>
    simp only [rzBlk] at h
    split at h
    · rename_i l ms hmap
      simp only [Option.some.injEq, Prod.mk.injEq] at h
      obtain ⟨rfl, rfl⟩ := h
      obtain ⟨e1, e2⟩ := mapO_spec hmap
      refine .cells hb hh (by omega) (fun t y v hy hv => ?_)
      obtain ⟨v0, n0, g1, g2, g3⟩ := e2 t y hy
      exact ⟨(hr t v0 v g1 hv).1, rz_sound hm hF ho 20 v0 y n0 v g2 (hr t v0 v g1 hv).2 (fun n' c g' h1 h2 h3 => hn n' c g' (g3 n' h1) h2 h3)⟩
    · simp at h
  | row hb h0 hr =>
    simp only [rzBlk, Option.some.injEq, Prod.mk.injEq] at h
    obtain ⟨rfl, _⟩ := h
    exact (GoodBlk.row hb h0 hr).mono (fun _ _ => rfl) ho (.refl _) (fun _ _ => rfl)
  | map hb hh hmm =>
    simp only [rzBlk, Option.some.injEq, Prod.mk.injEq] at h
    obtain ⟨rfl, _⟩ := h
    exact (GoodBlk.map hb hh hmm).mono (fun _ _ => rfl) ho (.refl _) (fun _ _ => rfl)
  | full hb hh hmm hss hr =>
    simp only [rzBlk, Option.some.injEq, Prod.mk.injEq] at h
    obtain ⟨rfl, _⟩ := h
    exact (GoodBlk.full hb hh hmm hss hr).mono (fun _ _ => rfl) ho (.refl _) (fun _ _ => rfl)

theorem outB_look {keep : Nat → Bool} {m : Nat → Option Nat} : ∀ {l : List Nat} {h : Heap} {ns : List Nat}, outB keep F m l = some (h, ns) → ∀ (i : Nat) (b'' : Blk), look i h = some b'' →
    ∃ n b b' n0, n ∈ l ∧ F n = some b ∧ rzBlk keep F b = some (b', n0) ∧ m n = some i ∧ renBlk m b' = some b'' ∧ ∀ x ∈ n0, x ∈ ns
  | [], h, ns, hh, i, b'', hl => by
    simp only [outB, Option.some.injEq, Prod.mk.injEq] at hh
    obtain ⟨rfl, _⟩ := hh
    simp [look] at hl
  | n :: r, h, ns, hh, i, b'', hl => by
    unfold outB at hh
    split at hh
    · obtain ⟨n', b, b', n0, h1, h2⟩ := outB_look hh i b'' hl
      exact ⟨n', b, b', n0, List.mem_cons_of_mem _ h1, h2⟩
    · rename_i b hb
      split at hh
      · rename_i b' n1 i' h' ms e1 e2 e3
        split at hh
        · rename_i b2 e4
          simp only [Option.some.injEq, Prod.mk.injEq] at hh
          obtain ⟨rfl, rfl⟩ := hh
          rw [look_cons] at hl
          split at hl
          · rename_i e
            subst e
            injection hl with hl
            subst hl
            exact ⟨n, b, b', n1, by simp, hb, e1, e2, e4, fun x hx => List.mem_append_left _ hx⟩
          · obtain ⟨n', b0, b0', n0, h1, h2, h3, h4, h5, h6⟩ := outB_look e3 i b'' hl
            exact ⟨n', b0, b0', n0, List.mem_cons_of_mem _ h1, h2, h3, h4, h5, fun x hx => List.mem_append_right _ (h6 x hx)⟩
        · simp at hh
      · simp at hh

def outBeta (k : Nat) (ex : List Nat) (β : Beta) : Beta := (List.range k).map (fun n => (β[n]?).join) ++ ex.map (fun n => (β[n]?).join)
theorem outBeta_get {k n i : Nat} {ex : List Nat} {β' : Beta} (h : outN k ex n = some i) : (outBeta k ex β')[i]? = some (β'[n]?).join := by
  unfold outN at h
  cases hb : Nat.blt n k with
  | true =>
    rw [hb] at h
    simp only [cond_true, Option.some.injEq] at h
    subst h
    have hlt : n < k := Nat.blt_eq ▸ hb
    simp [outBeta, List.getElem?_append, hlt]
  | false =>
    rw [hb] at h
    simp only [cond_false] at h
    obtain ⟨h1, h2⟩ := idx_some h
    simp [outBeta, List.getElem?_append, Nat.not_lt.2 h1, h2]
theorem outBeta_same {k : Nat} {ex : List Nat} {β' : Beta} : Same β' (outBeta k ex β') (outN k ex) := fun n i v h1 h2 => by
  rw [outBeta_get h1, h2]; rfl
theorem outBeta_block {k n i : Nat} {ex : List Nat} {β' : Beta} (h : outN k ex n = some i) : blockOf (outBeta k ex β') i = blockOf β' n := by
  simp [blockOf, outBeta_get h]
theorem outN_keep {k n i : Nat} {ex : List Nat} (h : outN k ex n = some i) : keepN k ex n = true := by
  unfold outN at h
  cases hb : Nat.blt n k with
  | true => simp [keepN, hb]
  | false =>
    rw [hb] at h
    simp only [cond_false] at h
    obtain ⟨h1, h2⟩ := idx_some h
    have : n ∈ ex := List.mem_of_getElem? h2
    simp [keepN, memN_iff.2 this]

theorem retF_sound {v0 v : AV} {h : Heap} {s : St} {k : Nat} {ex : List Nat} {x : Value} (e : retF k ex v0 s = some (v, h)) (hx : ARep w β ok v0 x) (hm : Mem w β ok s.σ) :
    ∃ ns, ARep w (outBeta k ex β) (okd ok β s.σ ns) v x ∧ Mem w (outBeta k ex β) (okd ok β s.σ ns) h ∧ ∀ g, live (outBeta k ex β) h g → live β s.σ g := by
  unfold retF at e
  split at e
  · rename_i v1 n1 h1 n2 hrz hout
    cases hbb : ((n1 ++ n2).all (fun n => !keepN k ex n) && nodupN ex) with
    | false => rw [hbb] at e; simp at e
    | true =>
      rw [hbb] at e
      simp only [cond_true] at e
      split at e
      · rename_i v2 hren
        simp only [Option.some.injEq, Prod.mk.injEq] at e
        obtain ⟨rfl, rfl⟩ := e
        simp only [Bool.and_eq_true, List.all_eq_true] at hbb
        have hfro := hbb.1
        have ho : ∀ g, ok g → okd ok β s.σ (n1 ++ n2) g := fun g hg => .inl hg
        have hn1 : ∀ n c g, n ∈ n1 → look n s.σ = some c → blockOf β n = some g → okd ok β s.σ (n1 ++ n2) g := fun n c g a1 a2 a3 => .inr ⟨n, c, List.mem_append_left _ a1, a2, a3⟩
        have hn2 : ∀ n c g, n ∈ n2 → look n s.σ = some c → blockOf β n = some g → okd ok β s.σ (n1 ++ n2) g := fun n c g a1 a2 a3 => .inr ⟨n, c, List.mem_append_right _ a1, a2, a3⟩
        have hlv : ∀ g, live (outBeta k ex β) h1 g → live β s.σ g := by
          rintro g ⟨i, c, a1, a2⟩
          obtain ⟨n, bq, b', n0, c1, c2, c3, c4, c5, c6⟩ := outB_look hout i c a1
          exact ⟨n, bq, c2, by rw [← outBeta_block c4]; exact a2⟩
        refine ⟨n1 ++ n2, ren_sound outBeta_same 20 v1 v2 x hren (rz_sound hm (fun n c hh => hh) ho 20 v0 v1 n1 x hrz hx hn1), ⟨?_, ?_, ?_, ?_⟩, hlv⟩
        · intro i c a1
          obtain ⟨n, bq, b', n0, c1, c2, c3, c4, c5, c6⟩ := outB_look hout i c a1
          exact renBlk_sound outBeta_same c4 c5 (rzBlk_sound hm (fun n c hh => hh) ho c3 (hm.blks n bq c2) (fun n' c' g' d1 d2 d3 => hn2 n' c' g' (c6 n' d1) d2 d3))
        · intro i j c d g hij a1 a2 a3 a4
          obtain ⟨n, bq, b', n0, c1, c2, c3, c4, c5, c6⟩ := outB_look hout i c a1
          obtain ⟨n', bq', b'', n0', d1, d2, d3, d4, d5, d6⟩ := outB_look hout j d a2
          rw [outBeta_block c4] at a3
          rw [outBeta_block d4] at a4
          refine hm.inj n n' bq bq' g (fun hh => hij ?_) c2 d2 a3 a4
          subst hh
          rw [c4] at d4
          injection d4
        · intro i c g a1 a2 a3
          obtain ⟨n, bq, b', n0, c1, c2, c3, c4, c5, c6⟩ := outB_look hout i c a1
          rw [outBeta_block c4] at a2
          rcases a3 with a3 | ⟨n', c', d1, d2, d3⟩
          · exact hm.ro n bq g c2 a2 a3
          · have hk := outN_keep c4
            have hk' := hfro n' d1
            refine hm.inj n n' bq c' g (fun hh => ?_) c2 d2 a2 d3
            subst hh
            simp [hk] at hk'
        · rintro g (hg | ⟨n', c', d1, d2, d3⟩)
          · exact hm.oklt g hg
          · exact (hm.blks n' c' d2).block.2 g d3
      · simp at e
  · simp at e

/-- The same, whatever the names of what is handed back live. -/
def RetE (k : Nat) (v : AV) (σ' : Heap) (v0 : AV) (s : St) : Prop := ∃ ex, RetR k ex v σ' v0 s
theorem Runs.mono {kk : Nat} {todo : List Item} {s : St} {R R' : AV → St → Prop} (h : Runs P f kk todo s R) (hr : ∀ v s, R v s → R' v s) : Runs P f kk todo s R' := by
  intro w β ok a b cs h1 h2 h3 h4
  obtain ⟨x, w', fr', ⟨v, s', β', ok', r1, r2⟩, g⟩ := h w β ok a b cs h1 h2 h3 h4
  exact ⟨x, w', fr', ⟨v, s', β', ok', hr _ _ r1, r2⟩, g⟩

theorem acalls_ofE {args : List AV} {v : AV} {σ' : Heap} {body : Code} (hf : P.funcs[f]? = some fn) (hb : fn.body = some body)
    (h : Runs P f σ.length [.code body] (initSt fn args σ) (RetE σ.length v σ')) : ACalls P f args σ v σ' := by
  intro w β ok vs hβ hlen hargs hmem cs
  let b : Frame := { (default : Frame) with fn := f, kind := .normal }
  let a : Act := { tmps := vs ++ Array.replicate (fn.ntmps - vs.size) undef, defers := [] }
  have henter : Frame.enter P f vs .normal = b.at a [.code body] := by
    simp [Frame.enter, Frame.at, hf, hb, b, a]
  have hH : Holds w β ok (initSt fn args σ) a := by
    have hm : (bif Nat.ble args.length fn.ntmps then fn.ntmps else args.length) = args.length + (fn.ntmps - args.length) := by
      cases hb : Nat.ble args.length fn.ntmps with
      | true => have := Nat.le_of_ble_eq_true hb; simp only [cond_true]; omega
      | false =>
        have : ¬ args.length ≤ fn.ntmps := fun h => by rw [Nat.ble_eq_true_of_le h] at hb; simp at hb
        simp only [cond_false]; omega
    refine ⟨hβ, by rw [show (initSt fn args σ).m = _ from hm, hlen]; simp [a], fun k q hk => ?_, hmem⟩
    obtain ⟨_, h2⟩ := look_zipT args 0 k q hk
    rw [Nat.sub_zero] at h2
    have hk' : k < vs.size := by have := (List.getElem?_eq_some_iff.1 h2).1; omega
    have e : a.tmps.getD k undef = vs[k] := by
      simp only [a, Array.getD_eq_getD_getElem?, Array.getElem?_append, if_pos hk']
      simp [hk']
    rw [e]
    exact hargs k q vs[k] h2 (by simp [hk'])
  obtain ⟨x, w', fr', ⟨v0, s', β', ok', r1, r2, ⟨r3, _⟩, r4⟩, g2, g3, g4⟩ := h w β ok a b cs rfl rfl rfl hH
  rw [← henter] at g2
  refine ⟨.returned x, w', fr', ?_, g2, g3, g4⟩
  obtain ⟨ex, r1⟩ := r1
  unfold RetR at r1
  split at r1
  · rename_i v2 hp hret
    obtain ⟨rfl, rfl⟩ := r1
    obtain ⟨ns, q1, q2, q3⟩ := retF_sound hret r2 r3
    have hfrz : ∀ g, (∃ n c, n ∈ ns ∧ look n s'.σ = some c ∧ blockOf β' n = some g) → live β' s'.σ g := fun g ⟨n, c, _, a1, a2⟩ => ⟨n, c, a1, a2⟩
    refine ⟨x, _, _, rfl, q1, q2, fun n y hn => ?_, fun g hg => .inl (r4.okm g hg), r4.fr, fun g hg => r4.lv g (q3 g hg), fun g hg => ?_⟩
    · have hlt : n < σ.length := by rw [← hβ]; exact (List.getElem?_eq_some_iff.1 hn).1
      have : outN σ.length ex n = some n := by
        have hb : Nat.blt n σ.length = true := by rw [Nat.blt_eq]; exact hlt
        unfold outN
        rw [hb]
        rfl
      exact outBeta_same n n y this (r4.ext n y hlt hn)
    · rcases hg with hg | hg
      · exact r4.okn g hg
      · rcases r4.lv g (hfrz g hg) with h | h
        · exact .inr (.inl h)
        · exact .inr (.inr h)
  · exact r1.elim
theorem acalls_of {args : List AV} {v : AV} {σ' : Heap} (ex : List Nat) {body : Code} (hf : P.funcs[f]? = some fn) (hb : fn.body = some body)
    (h : Runs P f σ.length [.code body] (initSt fn args σ) (RetR σ.length ex v σ')) : ACalls P f args σ v σ' :=
  acalls_ofE hf hb (h.mono fun _ _ hr => ⟨ex, hr⟩)
end
end Go.AM
