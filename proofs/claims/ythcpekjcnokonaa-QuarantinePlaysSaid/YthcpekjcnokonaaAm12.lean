/- Calls on abstract values: what is handed over frozen, what is handed over live under new names, and what comes back. -/
import Derived.Test.YthcpekjcnokonaaAm11
namespace Go.AM
open Go.RowKit

/-! ### Freezing: a value as it now stands, with nothing live in it; and the live names that it came from -/
def mapO (f : AV → Option (AV × List Nat)) : List AV → Option (List AV × List Nat)
  | [] => some ([], [])
  | v :: r => match f v, mapO f r with
    | some (a, n), some (l, m) => some (a :: l, n ++ m)
    | _, _ => none
def fz (F : Nat → Option Blk) : Nat → AV → Option (AV × List Nat)
  | 0, _ => none
  | k + 1, v =>
    match v with
    | .u | .mp _ | .tup _ | .eptr _ _ _ _ | .fv _ _ _ _ _ => none
    | .nil | .sle => some (.sl [], [])
    | .own n => match F n with
      | some (.row _ _ xs) => some (.sl xs, [n])
      | _ => none
    | .row n sz off len => match F n with
      | some (.row _ sz' xs) => bif Nat.beq sz sz' then some (.sl ((xs.drop off).take len), [n]) else none
      | _ => none
    | .ptr n off => match F n with
      | some (.cells cs) => match mapO (fz F k) (cs.drop off) with
        | some (l, ns) => some (.pp l, n :: ns)
        | none => none
      | _ => none
    | .ag cs => match mapO (fz F k) cs with
      | some (l, ns) => some (.ag l, ns)
      | none => none
    | .fn f p q => match mapO (fz F k) p, mapO (fz F k) q with
      | some (l, ns), some (m, ms) => some (.fn f l m, ns ++ ms)
      | _, _ => none
    | v => bif pureV v then some (v, []) else none

theorem mapO_spec {f : AV → Option (AV × List Nat)} : ∀ {vs vs' : List AV} {ns : List Nat}, mapO f vs = some (vs', ns) →
    vs'.length = vs.length ∧ ∀ (j : Nat) (v' : AV), vs'[j]? = some v' → ∃ v n, vs[j]? = some v ∧ f v = some (v', n) ∧ ∀ m ∈ n, m ∈ ns
  | [], vs', ns, h => by
    simp only [mapO, Option.some.injEq, Prod.mk.injEq] at h
    obtain ⟨rfl, rfl⟩ := h
    exact ⟨rfl, fun j v' hv => by simp at hv⟩
  | v :: r, vs', ns, h => by
    unfold mapO at h
    split at h
    · rename_i a n l m h1 h2
      simp only [Option.some.injEq, Prod.mk.injEq] at h
      obtain ⟨rfl, rfl⟩ := h
      obtain ⟨e1, e2⟩ := mapO_spec h2
      refine ⟨by simp [e1], fun j v' hv => ?_⟩
      cases j with
      | zero =>
        simp at hv
        subst hv
        exact ⟨v, n, rfl, h1, fun x hx => List.mem_append_left _ hx⟩
      | succ j =>
        obtain ⟨v0, n0, g1, g2, g3⟩ := e2 j v' (by simpa using hv)
        exact ⟨v0, n0, by simpa using g1, g2, fun x hx => List.mem_append_right _ (g3 x hx)⟩
    · simp at h

/-- Pure blocks, and those that are frozen for now. -/
def okd (ok : Nat → Prop) (β : Beta) (σ : Heap) (ns : List Nat) (g : Nat) : Prop := ok g ∨ ∃ n c, n ∈ ns ∧ look n σ = some c ∧ blockOf β n = some g

section
variable {P : Program} {w : World} {β : Beta} {ok : Nat → Prop} {σ : Heap} {nm : Nat} {F : Nat → Option Blk}

theorem row_frozen {ok' : Nat → Prop} {n e sz off len l c' : Nat} {xs : List (List AV)} {A : Option Addr} (hg : GoodBlk w β ok n (.row e sz xs)) (ho : ∀ g, ok g → ok' g) (hn : ∀ g, blockOf β n = some g → ok' g)
    (hl : ∃ g c, β[n]? = some (some (.slice (some ⟨g, 0, none⟩) l c)) ∧ (0 < c' → A = some ⟨g, off * sz, none⟩)) (hin : off + len ≤ l) (hc : len ≤ c') :
    PRep w ok' (.sl ((xs.drop off).take len)) (.slice A len c') := by
  cases hg with
  | @row _ _ _ v cells hb h0 hr =>
    obtain ⟨g, c, hb', hA⟩ := hl
    rw [hb'] at hb
    simp only [Option.some.injEq] at hb
    subst hb
    obtain ⟨e1, e2⟩ := own_len h0
    have hlen : ((xs.drop off).take len).length = len := by simp; omega
    have hget : ∀ (j : Nat) (x : List AV), ((xs.drop off).take len)[j]? = some x → xs[off + j]? = some x ∧ j < len := by
      intro j x hx
      rw [List.getElem?_take] at hx
      split at hx
      · rw [List.getElem?_drop] at hx; exact ⟨hx, by assumption⟩
      · simp at hx
    have hcl := h0.1
    have hmul : off * sz + len * sz ≤ xs.length * sz := by rw [← Nat.add_mul]; exact Nat.mul_le_mul_right _ (by omega)
    have key : PRep w ok' (.sl ((xs.drop off).take len)) (.slice A ((xs.drop off).take len).length c') := by
      refine .sl sz (fun t => cells.getD (off * sz + t) undef) (by omega) (fun e => by rcases Nat.eq_zero_or_pos c' with h | h; exact h; (have := hA h; rw [e] at this; simp at this)) (fun j x hx => (hr _ x (hget j x hx).1).1) (fun h => ?_) (fun t ht => ?_) (fun j x t y hx hy => ?_)
      · rw [hlen] at h ⊢
        subst e1
        refine ⟨_, hA (by omega), hn g (by rw [blockOf_some hb']; rfl), fun t ht => ?_⟩
        have hc0 := h0.cellAt (off * sz + t) (by omega)
        rw [Addr.add_lit, hc0]
        simp [List.getD, show off * sz + t < cells.length by omega]
      · rw [hlen] at ht
        have hpos : 0 < sz := by
          rcases Nat.eq_zero_or_pos sz with h | h
          · subst h; omega
          · exact h
        have hdm : off * sz + t = ((off * sz + t) / sz) * sz + (off * sz + t) % sz := by rw [Nat.mul_comm ((off * sz + t) / sz) sz]; exact (Nat.div_add_mod _ _).symm
        have hq : (off * sz + t) / sz < xs.length := by rw [Nat.div_lt_iff_lt_mul hpos]; omega
        obtain ⟨w1, w2⟩ := hr _ _ (List.getElem?_eq_getElem hq)
        have hr0 : (off * sz + t) % sz < xs[(off * sz + t) / sz].length := by rw [w1]; exact Nat.mod_lt _ hpos
        obtain ⟨q, q1, q2, _⟩ := w2 _ _ (List.getElem?_eq_getElem hr0)
        rw [← hdm] at q1
        simp only [List.getD, q1, Option.getD_some]
        exact q2
      · obtain ⟨h1, h2⟩ := hget j x hx
        obtain ⟨q, q1, q2, q3⟩ := (hr _ _ h1).2 t y hy
        rw [show off * sz + (j * sz + t) = (off + j) * sz + t by rw [Nat.add_mul]; omega]
        simp only [List.getD, q1, Option.getD_some]
        exact q3.mono (fun _ _ => rfl) ho
    rw [hlen] at key
    exact key

theorem own_frozen {ok' : Nat → Prop} {n e sz l c : Nat} {xs : List (List AV)} {A : Option Addr} (hg : GoodBlk w β ok n (.row e sz xs)) (ho : ∀ g, ok g → ok' g) (hn : ∀ g, blockOf β n = some g → ok' g)
    (hb : β[n]? = some (some (.slice A l c))) : PRep w ok' (.sl xs) (.slice A l c) := by
  cases hg with
  | @row _ _ _ v cells hb0 h0 hr =>
    have hb1 := hb0
    rw [hb] at hb0
    simp only [Option.some.injEq] at hb0
    subst hb0
    obtain ⟨e1, e2⟩ := own_len h0
    subst e1
    rcases h0.2 with ⟨e3, e4⟩ | ⟨g, cap, cur, e3, _⟩
    · have : xs = [] := List.eq_nil_of_length_eq_zero e4
      subst this
      simp only [Value.slice.injEq] at e3
      exact .sl 0 (fun _ => undef) (by simp) (fun _ => e3.2.2) (by simp) (by simp) (by simp) (by simp)
    · have e3' := e3
      simp only [Value.slice.injEq] at e3
      obtain ⟨rfl, _, rfl⟩ := e3
      have := row_frozen (off := 0) (len := xs.length) (c' := c) (A := some ⟨g, 0, none⟩) (.row hb1 h0 hr) ho hn ⟨g, c, hb, fun _ => by simp⟩ (by omega) e2
      rw [List.drop_zero, List.take_of_length_le (Nat.le_refl _)] at this
      exact this

theorem fz_sound {ok' : Nat → Prop} (hm : Mem w β ok σ) (hF : ∀ n c, F n = some c → look n σ = some c) (ho : ∀ g, ok g → ok' g) : ∀ (k : Nat) (v v' : AV) (ns : List Nat) (x : Value),
    fz F k v = some (v', ns) → ARep w β ok v x → (∀ n c g, n ∈ ns → look n σ = some c → blockOf β n = some g → ok' g) → PRep w ok' v' x := by
  intro k
  induction k with
  | zero => intro v v' ns x h; simp [fz] at h
  | succ k ih =>
    intro v v' ns x h hx hn
    have many : ∀ (cs l : List AV) (ms : List Nat) (V : Array Value), mapO (fz F k) cs = some (l, ms) → RepL w β ok cs V → (∀ m ∈ ms, m ∈ ns) → l.length = V.size ∧ ∀ (j : Nat) (a : AV) (y : Value), l[j]? = some a → V[j]? = some y → PRep w ok' a y := by
      intro cs l ms V hmap hR hsub
      obtain ⟨e1, e2⟩ := mapO_spec hmap
      refine ⟨by rw [e1]; exact hR.1, fun j a y ha hy => ?_⟩
      obtain ⟨v0, n0, g1, g2, g3⟩ := e2 j a ha
      exact ih v0 a n0 y g2 (hR.2 j v0 y g1 hy) (fun n c g h1 h2 h3 => hn n c g (hsub n (g3 n h1)) h2 h3)
    unfold fz at h
    split at h
    · simp at h
    · simp at h
    · simp at h
    · simp at h
    · simp at h
    · simp only [Option.some.injEq, Prod.mk.injEq] at h
      obtain ⟨rfl, rfl⟩ := h
      rw [rep_nil hx]
      exact .sl 0 (fun _ => undef) (by simp) (by simp) (by simp) (by simp) (by simp) (by simp)
    · simp only [Option.some.injEq, Prod.mk.injEq] at h
      obtain ⟨rfl, rfl⟩ := h
      obtain ⟨A, c, rfl⟩ := rep_sle hx
      exact .sl 0 (fun _ => undef) (by simp) (by simp) (by simp) (by simp) (by simp) (by simp)
    · rename_i n
      split at h
      · rename_i e sz xs hFn
        simp only [Option.some.injEq, Prod.mk.injEq] at h
        obtain ⟨rfl, rfl⟩ := h
        have hl := hF n _ hFn
        cases hx with
        | p hp => cases hp
        | own hb => exact own_frozen (hm.blks n _ hl) ho (fun g hg => hn n _ g (by simp) hl hg) hb
      · simp at h
    · rename_i n sz off len
      split at h
      · rename_i e sz' xs hFn
        cases hb : Nat.beq sz sz' with
        | false => rw [hb] at h; simp at h
        | true =>
          rw [hb] at h
          simp only [cond_true, Option.some.injEq, Prod.mk.injEq] at h
          obtain ⟨rfl, rfl⟩ := h
          have hb' := beq_nat hb
          subst hb'
          have hl := hF n _ hFn
          cases hx with
          | p hp => cases hp
          | row0 => simp only [List.take_zero]; exact .sl 0 (fun _ => undef) (by simp) (by simp) (by simp) (by simp) (by simp) (by simp)
          | row hb0 hc hll hin ha => exact row_frozen (hm.blks n _ hl) ho (fun g hg => hn n _ g (by simp) hl hg) ⟨_, _, hb0, ha⟩ hin hc
      · simp at h
    · rename_i n off
      split at h
      · rename_i cs hFn
        split at h
        · rename_i l ms hfz
          simp only [Option.some.injEq, Prod.mk.injEq] at h
          obtain ⟨rfl, rfl⟩ := h
          have hl := hF n _ hFn
          obtain ⟨ad, rfl, g, hcell, hrep⟩ := cells_cellsAt (hm.blks n _ hl) hx
          obtain ⟨e1, e2⟩ := mapO_spec hfz
          have hok : ok' ad.block := by
            obtain ⟨g0, e, hb⟩ := rep_ptr hx
            injection e with e
            injection e with e
            subst e
            exact hn n _ g0 (by simp) hl (by rw [blockOf_some hb]; rfl)
          refine .pp g hok (fun t ht => hcell t (by omega)) (fun t ht => (hrep t _ (List.getElem?_eq_getElem (by omega))).1) (fun t y hy => ?_)
          obtain ⟨v0, n0, g1, g2, g3⟩ := e2 t y hy
          exact ih v0 y n0 _ g2 (hrep t v0 g1).2 (fun n' c g' h1 h2 h3 => hn n' c g' (List.mem_cons_of_mem _ (g3 n' h1)) h2 h3)
        · simp at h
      · simp at h
    · rename_i cs
      split at h
      · rename_i l ms hfz
        simp only [Option.some.injEq, Prod.mk.injEq] at h
        obtain ⟨rfl, rfl⟩ := h
        obtain ⟨V, rfl, hR, hO⟩ := rep_ag hx
        obtain ⟨r1, r2⟩ := many cs l ms V hfz hR (fun m hm => hm)
        exact .ag r1 hO r2
      · simp at h
    · rename_i f p q
      split at h
      · rename_i l ms1 m ms2 h1 h2
        simp only [Option.some.injEq, Prod.mk.injEq] at h
        obtain ⟨rfl, rfl⟩ := h
        obtain ⟨A, B, rfl, hA, hB⟩ := rep_fn hx
        obtain ⟨r1, r2⟩ := many p l ms1 A h1 hA (fun m hm => List.mem_append_left _ hm)
        obtain ⟨r3, r4⟩ := many q m ms2 B h2 hB (fun m hm => List.mem_append_right _ hm)
        exact .fn r1 r3 r2 r4
      · simp at h
    · cases hp : pureV v with
      | false => rw [hp] at h; simp at h
      | true =>
        rw [hp] at h
        simp only [cond_true, Option.some.injEq, Prod.mk.injEq] at h
        obtain ⟨rfl, rfl⟩ := h
        exact (pure_rep hx hp).1.mono (fun _ _ => rfl) ho

/-! ### Other names for the same blocks -/
def idx (n : Nat) : Nat → List Nat → Option Nat
  | _, [] => none
  | k, m :: r => bif Nat.beq n m then some k else idx n (k + 1) r

def mapAll (f : AV → Option AV) : List AV → Option (List AV)
  | [] => some []
  | v :: r => match f v, mapAll f r with
    | some a, some l => some (a :: l)
    | _, _ => none
def ren (m : Nat → Option Nat) : Nat → AV → Option AV
  | 0, _ => none
  | k + 1, v =>
    match v with
    | .own n => (m n).map .own
    | .row n sz off len => (m n).map fun n => .row n sz off len
    | .ptr n off => (m n).map fun n => .ptr n off
    | .eptr n sz j off => (m n).map fun n => .eptr n sz j off
    | .mp n => (m n).map .mp
    | .fv n sz off len cap => (m n).map fun n => .fv n sz off len cap
    | .ag cs => (mapAll (ren m k) cs).map .ag
    | .tup cs => (mapAll (ren m k) cs).map .tup
    | .fn f p q => match mapAll (ren m k) p, mapAll (ren m k) q with
      | some a, some b => some (.fn f a b)
      | _, _ => none
    | .u => some .u
    | v => bif pureV v then some v else none
def renBlk (m : Nat → Option Nat) : Blk → Option Blk
  | .cells cs => (mapAll (ren m 20) cs).map .cells
  | b => some b

theorem mapAll_spec {f : AV → Option AV} : ∀ {vs vs' : List AV}, mapAll f vs = some vs' → vs'.length = vs.length ∧ ∀ (j : Nat) (v' : AV), vs'[j]? = some v' → ∃ v, vs[j]? = some v ∧ f v = some v'
  | [], vs', h => by
    simp [mapAll] at h
    subst h
    exact ⟨rfl, fun j v' hv => by simp at hv⟩
  | v :: r, vs', h => by
    unfold mapAll at h
    split at h
    · rename_i a l h1 h2
      injection h with h
      subst h
      obtain ⟨e1, e2⟩ := mapAll_spec h2
      refine ⟨by simp [e1], fun j v' hv => ?_⟩
      cases j with
      | zero => simp at hv; subst hv; exact ⟨v, rfl, h1⟩
      | succ j =>
        obtain ⟨v0, g1, g2⟩ := e2 j v' (by simpa using hv)
        exact ⟨v0, by simpa using g1, g2⟩
    · simp at h

/-- The new names lead where the old ones led. -/
def Same (β β' : Beta) (m : Nat → Option Nat) : Prop := ∀ n i v, m n = some i → β[n]? = some (some v) → β'[i]? = some (some v)

theorem ren_sound {β' : Beta} {m : Nat → Option Nat} (hs : Same β β' m) : ∀ (k : Nat) (v v' : AV) (x : Value), ren m k v = some v' → ARep w β ok v x → ARep w β' ok v' x := by
  intro k
  induction k with
  | zero => intro v v' x h; simp [ren] at h
  | succ k ih =>
    intro v v' x h hx
    have many : ∀ (cs l : List AV) (V : Array Value), mapAll (ren m k) cs = some l → RepL w β ok cs V → RepL w β' ok l V := by
      intro cs l V hmap hR
      obtain ⟨e1, e2⟩ := mapAll_spec hmap
      refine ⟨by rw [e1]; exact hR.1, fun j a y ha hy => ?_⟩
      obtain ⟨v0, g1, g2⟩ := e2 j a ha
      exact ih v0 a y g2 (hR.2 j v0 y g1 hy)
    unfold ren at h
    split at h
    · obtain ⟨i, hi, rfl⟩ := Option.map_eq_some_iff.1 h
      cases hx with
      | p hp => cases hp
      | own hb => exact .own (hs _ _ _ hi hb)
    · obtain ⟨i, hi, rfl⟩ := Option.map_eq_some_iff.1 h
      cases hx with
      | p hp => cases hp
      | row hb hc hl hin ha => exact .row (hs _ _ _ hi hb) hc hl hin ha
      | row0 => exact .row0
    · obtain ⟨i, hi, rfl⟩ := Option.map_eq_some_iff.1 h
      cases hx with
      | p hp => cases hp
      | ptr hb => exact .ptr (hs _ _ _ hi hb)
    · obtain ⟨i, hi, rfl⟩ := Option.map_eq_some_iff.1 h
      cases hx with
      | p hp => cases hp
      | eptr hb => exact .eptr (hs _ _ _ hi hb)
    · obtain ⟨i, hi, rfl⟩ := Option.map_eq_some_iff.1 h
      cases hx with
      | p hp => cases hp
      | mp hb => exact .mp (hs _ _ _ hi hb)
    · obtain ⟨i, hi, rfl⟩ := Option.map_eq_some_iff.1 h
      cases hx with
      | p hp => cases hp
      | fv hb hc hin ha => exact .fv (hs _ _ _ hi hb) hc hin ha
    · obtain ⟨l, hl, rfl⟩ := Option.map_eq_some_iff.1 h
      obtain ⟨V, rfl, hR, hO⟩ := rep_ag hx
      obtain ⟨r1, r2⟩ := many _ l V hl hR
      exact .ag r1 hO r2
    · obtain ⟨l, hl, rfl⟩ := Option.map_eq_some_iff.1 h
      obtain ⟨V, rfl, hR⟩ := rep_tup hx
      obtain ⟨r1, r2⟩ := many _ l V hl hR
      exact .tup r1 r2
    · split at h
      · rename_i a b h1 h2
        injection h with h
        subst h
        obtain ⟨A, B, rfl, hA, hB⟩ := rep_fn hx
        obtain ⟨r1, r2⟩ := many _ a A h1 hA
        obtain ⟨r3, r4⟩ := many _ b B h2 hB
        exact .fn r1 r3 r2 r4
      · simp at h
    · injection h with h
      subst h
      exact .u x
    · cases hp : pureV v with
      | false => rw [hp] at h; simp at h
      | true =>
        rw [hp] at h
        simp only [cond_true, Option.some.injEq] at h
        subst h
        exact .p (pure_rep hx hp).1

theorem renBlk_sound {β' : Beta} {m : Nat → Option Nat} {n i : Nat} {b b' : Blk} (hs : Same β β' m) (hm : m n = some i) (h : renBlk m b = some b') (hg : GoodBlk w β ok n b) : GoodBlk w β' ok i b' := by
  cases hg with
  | @cells cs g arr T hb hh hl hr =>
    simp only [renBlk] at h
    obtain ⟨l, hl', rfl⟩ := Option.map_eq_some_iff.1 h
    obtain ⟨e1, e2⟩ := mapAll_spec hl'
    refine .cells (hs n i _ hm hb) hh (by omega) (fun t y v hy hv => ?_)
    obtain ⟨y0, g1, g2⟩ := e2 t y hy
    exact ⟨(hr t y0 v g1 hv).1, ren_sound hs 20 y0 y v g2 (hr t y0 v g1 hv).2⟩
  | row hb h0 hr =>
    simp only [renBlk, Option.some.injEq] at h
    subst h
    exact .row (hs n i _ hm hb) h0 hr
  | map hb hh hmm =>
    simp only [renBlk, Option.some.injEq] at h
    subst h
    exact .map (hs n i _ hm hb) hh hmm
  | full hb hh hmm hss hr =>
    simp only [renBlk, Option.some.injEq] at h
    subst h
    exact .full (hs n i _ hm hb) hh hmm hss hr
end
end Go.AM
