/- Another view of the same memory, between two stretches of code: spare places seen or forgotten, nil taken for a row, a slice without elements taken for nil or not. -/
import Derived.Test.YthcpekjcnokonaaAm23
set_option linter.unusedVariables false
set_option linter.unusedSimpArgs false
namespace Go.AM
open Go.RowKit
section
variable {P : Program} {f : FuncId} {fn : Func} {kk : Nat} {todo : List Item} {R : AV → St → Prop}

theorem Runs.re {s : St} (h : ∀ (w : World) (β : Beta) (ok : Nat → Prop) (a : Act), Holds w β ok s a → ∃ s' β', Runs P f kk todo s' R ∧ Holds w β' ok s' a ∧ BExt β β' ∧ ∀ g, live β' s'.σ g → live β s.σ g) : Runs P f kk todo s R := by
  intro w β ok a b cs h1 h2 h3 h4
  obtain ⟨s', β', hr, hh, he, hl⟩ := h w β ok a h4
  obtain ⟨x, w', fr', ⟨v, s2, β2, ok2, r1, r2, r3, r4⟩, g2, g3, g4⟩ := hr w β' ok a b cs h1 h2 h3 hh
  refine ⟨x, w', fr', ⟨v, s2, β2, ok2, r1, r2, r3, ⟨fun n y hn hy => r4.ext n y hn (he n y hy), r4.okm, r4.fr.mono hl, fun g hg => (r4.lv g hg).imp (hl g) id, fun g hg => ?_⟩⟩, g2, g3, g4⟩
  rcases r4.okn g hg with h | h | h
  · exact .inl h
  · exact .inr (.inl (hl g h))
  · exact .inr (.inr h)

/-- A slot gets another abstract value that holds of it, too. -/
theorem Holds.slot {w : World} {β : Beta} {ok : Nat → Prop} {s : St} {a : Act} {j : Nat} {v : AV} (h : Holds w β ok s a) (hv : ARep w β ok v (a.tmps.getD j undef)) : Holds w β ok { s with t := tset j v s.t } a :=
  ⟨h.len, h.size, fun k y hk => by
    simp only [look_tset] at hk
    split at hk
    · rename_i e
      subst e
      injection hk with hk
      subst hk
      exact hv
    · exact h.tm k y hk, h.mem⟩

/-! ### A slice without elements -/
theorem Runs.sl0 {s : St} {j : Nat} (h : look j s.t = some (.sl [])) (h1 : Runs P f kk todo { s with t := tset j .nil s.t } R) (h2 : Runs P f kk todo { s with t := tset j .sle s.t } R) : Runs P f kk todo s R := by
  refine Runs.re (fun w β ok a hh => ?_)
  have hr := hh.tm j _ h
  generalize a.tmps.getD j undef = x at hr
  have : ARep w β ok .nil (a.tmps.getD j undef) ∨ ARep w β ok .sle (a.tmps.getD j undef) := by
    have hr := hh.tm j _ h
    obtain ⟨A, c, e, hc, hp⟩ := rep_sl hr
    rw [e]
    cases A with
    | some A => exact .inr (.p (.sle A c))
    | none =>
      cases hp with
      | sl sz g hc hnil hw had h1 hr =>
        rw [hnil rfl]
        exact .inl (.p .nil)
  rcases this with h3 | h3
  · exact ⟨_, β, h1, hh.slot h3, .refl _, fun _ h => h⟩
  · exact ⟨_, β, h2, hh.slot h3, .refl _, fun _ h => h⟩

/-! ### Spare places -/
def revS (j n e sz : Nat) (xs : List (List AV)) (s : St) (k : Nat) : St :=
  { s with t := tset j (.fv n sz 0 xs.length (xs.length + k)) s.t, σ := hset n (.full e sz (xs ++ List.replicate k (List.replicate sz .u))) s.σ }
theorem Runs.reveal {s : St} {j n e sz : Nat} {xs : List (List AV)} (h : look j s.t = some (.own n)) (hn : look n s.σ = some (.row e sz xs)) (h0 : 0 < xs.length) (hk : ∀ k, xs.length + k ≤ 9223372036854775807 → Runs P f kk todo (revS j n e sz xs s k) R) : Runs P f kk todo s R := by
  refine Runs.re (fun w β ok a hh => ?_)
  have hr := hh.tm j _ h
  cases hh.mem.blks n _ hn with
  | @row _ _ _ v cells hb ho hrr =>
    have hx : ∃ A l c, v = .slice A l c ∧ a.tmps.getD j undef = v := by
      generalize a.tmps.getD j undef = x at hr
      cases hr with
      | p hp => cases hp
      | @own _ A l c hp =>
        rw [hp] at hb
        simp only [Option.some.injEq] at hb
        exact ⟨A, l, c, hb.symm, hb⟩
    obtain ⟨A, l, c, rfl, hx⟩ := hx
    obtain ⟨e1, e2⟩ := own_len ho
    subst e1
    rcases ho.2 with ⟨e3, e4⟩ | ⟨g, cap, cur, e3, hg0, hheap, hnc, hcm, hcs, htake⟩
    · omega
    · simp only [Value.slice.injEq] at e3
      obtain ⟨rfl, _, rfl⟩ := e3
      have hlen : (xs ++ List.replicate (c - xs.length) (List.replicate sz AV.u)).length = c := by simp; omega
      have hgood : GoodBlk w β ok n (.full e sz (xs ++ List.replicate (c - xs.length) (List.replicate sz .u))) := by
        refine .full (g := g) (l := xs.length) (cur := cur) (by rw [hlen]; exact hb) hheap (by rw [hlen]; exact hcm) (by rw [hlen]; exact hcs) (fun q x hq => ?_)
        by_cases hql : q < xs.length
        · rw [List.getElem?_append_left hql] at hq
          obtain ⟨w1, w2⟩ := hrr q x hq
          refine ⟨w1, fun t y hy => .inr ?_⟩
          obtain ⟨u, q1, q2, q3⟩ := w2 t y hy
          refine ⟨u, ?_, q2, q3⟩
          rw [← htake, List.getElem?_take] at q1
          split at q1
          · simpa using q1
          · simp at q1
        · rw [List.getElem?_append_right (by omega), List.getElem?_replicate] at hq
          split at hq
          · injection hq with hq
            subst hq
            refine ⟨by simp, fun t y hy => .inl ?_⟩
            rw [List.getElem?_replicate] at hy
            split at hy
            · injection hy with hy; exact hy.symm
            · simp at hy
          · simp at hq
      have hl : ∀ g', live β (hset n (.full e sz (xs ++ List.replicate (c - xs.length) (List.replicate sz AV.u))) s.σ) g' → live β s.σ g' := by
        rintro g' ⟨m, d, h1, h2⟩
        rw [look_hset] at h1
        split at h1
        · rename_i em; subst em; exact ⟨m, _, hn, h2⟩
        · exact ⟨m, d, h1, h2⟩
      have hlk : ∀ m d, look m (hset n (.full e sz (xs ++ List.replicate (c - xs.length) (List.replicate sz AV.u))) s.σ) = some d → ∃ d', look m s.σ = some d' := by
        intro m d h1
        rw [look_hset] at h1
        split at h1
        · rename_i em; subst em; exact ⟨_, hn⟩
        · exact ⟨_, h1⟩
      have hmem : Mem w β ok (hset n (.full e sz (xs ++ List.replicate (c - xs.length) (List.replicate sz AV.u))) s.σ) := by
        refine ⟨fun m d hm => ?_, fun p q d1 d2 g' hpq h1 h2 => ?_, fun m d g' h1 h2 => ?_, hh.mem.oklt⟩
        · rw [look_hset] at hm
          split at hm
          · rename_i em; subst em; injection hm with hm; subst hm; exact hgood
          · exact hh.mem.blks m d hm
        · obtain ⟨d1', h1'⟩ := hlk _ _ h1
          obtain ⟨d2', h2'⟩ := hlk _ _ h2
          exact hh.mem.inj p q d1' d2' g' hpq h1' h2'
        · obtain ⟨d', h1'⟩ := hlk _ _ h1
          exact hh.mem.ro m d' g' h1' h2
      have hkk := hk (c - xs.length) (by unfold maxLen at hcm; omega)
      refine ⟨_, β, hkk, ?_, .refl _, hl⟩
      have h1 : Holds w β ok { s with σ := hset n (.full e sz (xs ++ List.replicate (c - xs.length) (List.replicate sz .u))) s.σ } a := ⟨hh.len, hh.size, hh.tm, hmem⟩
      refine Holds.slot h1 ?_
      rw [hx, show xs.length + (c - xs.length) = c by omega]
      exact .fv hb hnc (by omega) (fun _ => by simp)

/-- The row as far as slot j sees it goes on as a row of its own, under a new name. -/
def fgtK (j : Nat) (s : St) (K : St → Prop) : Prop :=
  match look j s.t with
  | some (.fv n sz 0 len cap) => match look n s.σ with
    | some (.full e sz' xs) => bif Nat.beq sz sz' then 0 < cap ∧ cap = xs.length ∧ noU (xs.take len) ∧ K { s with t := tset j (.own s.n) s.t, σ := hset s.n (.row e sz (xs.take len)) (hdel n s.σ), n := s.n + 1 } else False
    | _ => False
  | _ => K s

theorem Holds.fresh {w : World} {β : Beta} {ok : Nat → Prop} {s : St} {a : Act} (h : Holds w β ok s a) (v : Value) : BExt β (β ++ [some v]) ∧ (β ++ [some v])[s.n]? = some (some v) ∧ look s.n s.σ = none ∧
    (∀ n c, look n s.σ = some c → blockOf (β ++ [some v]) n = blockOf β n) := by
  have hext : BExt β (β ++ [some v]) := by
    intro n y hn
    rw [List.getElem?_append_left (List.getElem?_eq_some_iff.1 hn).1]
    exact hn
  refine ⟨hext, by rw [← h.len]; simp, ?_, fun n c hc => ?_⟩
  · cases hq : look s.n s.σ with
    | none => rfl
    | some c =>
      obtain ⟨⟨y, hy⟩, _⟩ := (h.mem.blks _ c hq).block
      have := (List.getElem?_eq_some_iff.1 hy).1
      rw [h.len] at this
      omega
  · obtain ⟨⟨y, hy⟩, _⟩ := (h.mem.blks n c hc).block
    rw [blockOf_some hy, blockOf_some (hext n y hy)]

theorem Holds.fgt {w : World} {β : Beta} {ok : Nat → Prop} {s : St} {a : Act} {n sz len cap e : Nat} {xs : List (List AV)} {x0 : Value} (hh : Holds w β ok s a) (hx0 : ARep w β ok (.fv n sz 0 len cap) x0) (hn : look n s.σ = some (.full e sz xs)) (h0 : 0 < cap) (hcap : cap = xs.length) (hu : noU (xs.take len)) :
    ∃ β2, Holds w β2 ok { s with σ := hset s.n (.row e sz (xs.take len)) (hdel n s.σ), n := s.n + 1 } a ∧ BExt β β2 ∧ (∀ g, live β2 (hset s.n (.row e sz (xs.take len)) (hdel n s.σ)) g → live β s.σ g) ∧ ARep w β2 ok (.own s.n) x0 := by
  obtain ⟨A, g, l, c, hx, hbt, f1, f2, f3⟩ := rep_fv hx0
  obtain ⟨rfl, hmx, cur, hheap, hcs, hr⟩ := blk_full (hh.mem.blks n _ hn) hbt
  have hA := f3 h0
  subst hA
  obtain ⟨q1, q2, q3, q4⟩ := hh.fresh (.slice (some ⟨g, 0, none⟩) len cap)
  simp only [Nat.zero_mul] at hx
  obtain ⟨p1, p2, p3, p4⟩ := full_part (len := len) (off := 0) hcs hr (by omega) (by simpa using hu)
  simp only [List.drop_zero] at p4
  simp only [Nat.zero_mul, List.drop_zero] at p1 p2 p3 p4
  have hlt : (xs.take len).length = len := by simp; omega
  have hbn : blockOf β n = some g := by rw [blockOf_some hbt]; rfl
  have hbs : blockOf (β ++ [some (.slice (some ⟨g, 0, none⟩) len cap)]) s.n = some g := by rw [blockOf_some q2]; rfl
  have hgood : GoodBlk w (β ++ [some (.slice (some ⟨g, 0, none⟩) len cap)]) ok s.n (.row e sz (xs.take len)) := by
    refine .row (cells := cur.toList.take (len * sz)) q2 ⟨by rw [p1, hlt], .inr ⟨g, cap, cur, by rw [hlt], Nat.zero_le _, hheap, by rw [hlt]; exact f1, by omega, by rw [hcap]; exact hcs, by rw [hlt]⟩⟩ p4
  have hlk : ∀ m d, look m (hset s.n (.row e sz (xs.take len)) (hdel n s.σ)) = some d → (m = s.n ∧ d = .row e sz (xs.take len)) ∨ (m ≠ s.n ∧ m ≠ n ∧ look m s.σ = some d) := by
    intro m d h1
    rw [look_hset] at h1
    split at h1
    · injection h1 with h1; exact .inl ⟨by assumption, h1.symm⟩
    · rw [look_hdel] at h1
      split at h1
      · simp at h1
      · exact .inr ⟨by assumption, by assumption, h1⟩
  have hl : ∀ g', live (β ++ [some (.slice (some ⟨g, 0, none⟩) len cap)]) (hset s.n (.row e sz (xs.take len)) (hdel n s.σ)) g' → live β s.σ g' := by
    rintro g' ⟨m, d, h1, h2⟩
    rcases hlk m d h1 with ⟨rfl, rfl⟩ | ⟨_, _, h1⟩
    · rw [hbs] at h2; injection h2 with h2; subst h2; exact ⟨n, _, hn, hbn⟩
    · rw [q4 m d h1] at h2; exact ⟨m, d, h1, h2⟩
  have hmem : Mem w (β ++ [some (.slice (some ⟨g, 0, none⟩) len cap)]) ok (hset s.n (.row e sz (xs.take len)) (hdel n s.σ)) := by
    refine ⟨fun m d hm => ?_, fun p q d1 d2 g' hpq h1 h2 => ?_, fun m d g' h1 h2 => ?_, hh.mem.oklt⟩
    · rcases hlk m d hm with ⟨rfl, rfl⟩ | ⟨_, _, h1⟩
      · exact hgood
      · exact (hh.mem.blks m d h1).mono (fun _ _ => rfl) (fun _ h => h) q1 (fun _ _ => rfl)
    · intro h3 h4
      rcases hlk p d1 h1 with ⟨rfl, rfl⟩ | ⟨a1, a2, a3⟩
      · rcases hlk q d2 h2 with ⟨rfl, rfl⟩ | ⟨b1, b2, b3⟩
        · exact hpq rfl
        · rw [hbs] at h3
          injection h3 with h3
          subst h3
          rw [q4 q d2 b3] at h4
          exact hh.mem.inj q n d2 _ g b2 b3 hn h4 hbn
      · rcases hlk q d2 h2 with ⟨rfl, rfl⟩ | ⟨b1, b2, b3⟩
        · rw [hbs] at h4
          injection h4 with h4
          subst h4
          rw [q4 p d1 a3] at h3
          exact hh.mem.inj p n d1 _ g a2 a3 hn h3 hbn
        · rw [q4 p d1 a3] at h3
          rw [q4 q d2 b3] at h4
          exact hh.mem.inj p q d1 d2 g' hpq a3 b3 h3 h4
    · rcases hlk m d h1 with ⟨rfl, rfl⟩ | ⟨_, _, h1⟩
      · rw [hbs] at h2; injection h2 with h2; subst h2; exact hh.mem.ro n _ g hn hbn
      · rw [q4 m d h1] at h2; exact hh.mem.ro m d g' h1 h2
  refine ⟨β ++ [some (.slice (some ⟨g, 0, none⟩) len cap)], ⟨by simp [hh.len], hh.size, fun k v hk => (hh.tm k v hk).mono (fun _ _ => rfl) (fun _ h => h) q1, hmem⟩, q1, hl, ?_⟩
  rw [hx]
  exact .own q2

theorem Runs.fgt {s : St} {j : Nat} {K : St → Prop} (h : fgtK j s K) (hK : ∀ s', K s' → Runs P f kk todo s' R) : Runs P f kk todo s R := by
  unfold fgtK at h
  split at h
  · rename_i n sz len cap hj
    split at h
    · rename_i e sz' xs hn
      obtain ⟨hb, h0, hcap, hu, hk⟩ := bif_elim h
      have := beq_nat hb
      subst this
      refine Runs.re (fun w β ok a hh => ?_)
      obtain ⟨β2, a1, a2, a3, a4⟩ := hh.fgt (hh.tm j _ hj) hn h0 hcap hu
      exact ⟨_, β2, hK _ hk, Holds.slot a1 a4, a2, a3⟩
    · exact h.elim
  · exact hK _ h

/-! ### nil, taken for a row without elements -/
def promK (e sz j : Nat) (s : St) (K : St → Prop) : Prop :=
  match look j s.t with
  | some .nil => K { s with t := tset j (.own s.n) s.t, σ := hset s.n (.row e sz []) s.σ, n := s.n + 1 }
  | _ => K s
/-- The same in cell i of a variable's block. -/
def promCK (e sz b i : Nat) (s : St) (K : St → Prop) : Prop :=
  match look b s.σ with
  | some (.cells cs) => match cs[i]? with
    | some .nil => K { s with σ := hset s.n (.row e sz []) (hset b (.cells (setNth (.own s.n) i cs)) s.σ), n := s.n + 1 }
    | _ => K s
  | _ => K s

theorem get_setNth (v : AV) : ∀ (i : Nat) (l : List AV) (t : Nat), (setNth v i l)[t]? = if t = i ∧ i < l.length then some v else l[t]?
  | _, [], t => by simp [setNth]
  | 0, _ :: r, t => by
    cases t with
    | zero => simp [setNth]
    | succ t => simp [setNth]
  | i + 1, x :: r, t => by
    cases t with
    | zero => simp [setNth]
    | succ t => simp [setNth, get_setNth v i r t]
theorem length_setNth (v : AV) : ∀ (i : Nat) (l : List AV), (setNth v i l).length = l.length
  | _, [] => by simp [setNth]
  | 0, _ :: r => by simp [setNth]
  | i + 1, x :: r => by simp [setNth, length_setNth v i r]

/-- A row without elements that has no block, under a new name. -/
theorem Holds.nilRow {w : World} {β : Beta} {ok : Nat → Prop} {s : St} {a : Act} (e sz : Nat) (h : Holds w β ok s a) :
    Holds w (β ++ [some (.slice none 0 0)]) ok { s with σ := hset s.n (.row e sz []) s.σ, n := s.n + 1 } a ∧ BExt β (β ++ [some (.slice none 0 0)]) ∧ (β ++ [some (.slice none 0 0)])[s.n]? = some (some (.slice none 0 0)) ∧
      ∀ g, live (β ++ [some (.slice none 0 0)]) (hset s.n (.row e sz []) s.σ) g → live β s.σ g := by
  obtain ⟨q1, q2, q3, q4⟩ := h.fresh (.slice none 0 0)
  have hbs : blockOf (β ++ [some (.slice none 0 0)]) s.n = none := by rw [blockOf_some q2]; rfl
  have hlk : ∀ m d, look m (hset s.n (.row e sz []) s.σ) = some d → (m = s.n ∧ d = .row e sz []) ∨ (m ≠ s.n ∧ look m s.σ = some d) := by
    intro m d h1
    rw [look_hset] at h1
    split at h1
    · injection h1 with h1; exact .inl ⟨by assumption, h1.symm⟩
    · exact .inr ⟨by assumption, h1⟩
  refine ⟨⟨by simp [h.len], h.size, fun k v hk => (h.tm k v hk).mono (fun _ _ => rfl) (fun _ h => h) q1, ⟨fun m d hm => ?_, fun p q d1 d2 g' hpq h1 h2 h3 h4 => ?_, fun m d g' h1 h2 => ?_, h.mem.oklt⟩⟩, q1, q2, ?_⟩
  · rcases hlk m d hm with ⟨rfl, rfl⟩ | ⟨_, h1⟩
    · exact .row (cells := []) q2 ⟨by simp, .inl ⟨rfl, rfl⟩⟩ (fun j x hx => by simp at hx)
    · exact (h.mem.blks m d h1).mono (fun _ _ => rfl) (fun _ h => h) q1 (fun _ _ => rfl)
  · rcases hlk p d1 h1 with ⟨rfl, rfl⟩ | ⟨a1, a3⟩
    · rw [hbs] at h3; simp at h3
    · rcases hlk q d2 h2 with ⟨rfl, rfl⟩ | ⟨b1, b3⟩
      · rw [hbs] at h4; simp at h4
      · rw [q4 p d1 a3] at h3
        rw [q4 q d2 b3] at h4
        exact h.mem.inj p q d1 d2 g' hpq a3 b3 h3 h4
  · rcases hlk m d h1 with ⟨rfl, rfl⟩ | ⟨_, h1⟩
    · rw [hbs] at h2; simp at h2
    · rw [q4 m d h1] at h2; exact h.mem.ro m d g' h1 h2
  · rintro g' ⟨m, d, h1, h2⟩
    rcases hlk m d h1 with ⟨rfl, rfl⟩ | ⟨_, h1⟩
    · rw [hbs] at h2; simp at h2
    · rw [q4 m d h1] at h2; exact ⟨m, d, h1, h2⟩

theorem Runs.prom {s : St} {e sz j : Nat} {K : St → Prop} (h : promK e sz j s K) (hK : ∀ s', K s' → Runs P f kk todo s' R) : Runs P f kk todo s R := by
  unfold promK at h
  split at h
  · rename_i hj
    refine Runs.re (fun w β ok a hh => ?_)
    obtain ⟨h1, h2, h3, h4⟩ := hh.nilRow e sz
    refine ⟨_, _, hK _ h, Holds.slot h1 ?_, h2, h4⟩
    rw [rep_nil (hh.tm j _ hj)]
    exact .own h3
  · exact hK _ h
theorem Runs.promC {s : St} {e sz b i : Nat} {K : St → Prop} (h : promCK e sz b i s K) (hK : ∀ s', K s' → Runs P f kk todo s' R) : Runs P f kk todo s R := by
  unfold promCK at h
  split at h
  · rename_i cs hb
    split at h
    · rename_i hi
      refine Runs.re (fun w β ok a hh => ?_)
      have hcells : Holds w β ok { s with σ := hset b (.cells cs) s.σ } a := hh.congr ⟨fun _ => rfl, fun n => by rw [look_hset]; split <;> simp_all, rfl, rfl⟩
      obtain ⟨h1, h2, h3, h4⟩ := hh.nilRow e sz
      obtain ⟨_, _, q3, q4⟩ := hh.fresh (.slice none 0 0)
      have hbn : b ≠ s.n := fun e => by subst e; rw [q3] at hb; simp at hb
      refine ⟨_, _, hK _ h, ⟨h1.len, h1.size, h1.tm, ?_⟩, h2, ?_⟩
      · -- the variable's block: one cell has another abstract value
        have hlk : ∀ m d, look m (hset s.n (.row e sz []) (hset b (.cells (setNth (.own s.n) i cs)) s.σ)) = some d → (m = b ∧ d = .cells (setNth (.own s.n) i cs)) ∨ (m ≠ b ∧ look m (hset s.n (.row e sz []) s.σ) = some d) := by
          intro m d hm
          rw [look_hset] at hm
          rw [look_hset]
          by_cases e1 : m = s.n
          · rw [if_pos e1] at hm ⊢
            exact .inr ⟨fun e2 => hbn (e2 ▸ e1), hm⟩
          · rw [if_neg e1] at hm ⊢
            rw [look_hset] at hm
            by_cases e2 : m = b
            · rw [if_pos e2] at hm
              injection hm with hm
              exact .inl ⟨e2, hm.symm⟩
            · rw [if_neg e2] at hm
              exact .inr ⟨e2, hm⟩
        have hold : ∀ m d, look m (hset s.n (.row e sz []) (hset b (.cells (setNth (.own s.n) i cs)) s.σ)) = some d → ∃ d', look m (hset s.n (.row e sz []) s.σ) = some d' := by
          intro m d hm
          rcases hlk m d hm with ⟨rfl, _⟩ | ⟨_, h5⟩
          · refine ⟨.cells cs, ?_⟩
            rw [look_hset, if_neg hbn]; exact hb
          · exact ⟨d, h5⟩
        refine ⟨fun m d hm => ?_, fun p q d1 d2 g' hpq k1 k2 => ?_, fun m d g' k1 k2 => ?_, h1.mem.oklt⟩
        · rcases hlk m d hm with ⟨rfl, rfl⟩ | ⟨_, h5⟩
          · have hg := h1.mem.blks m (.cells cs) (by show look m (hset s.n (.row e sz []) s.σ) = _; rw [look_hset, if_neg hbn]; exact hb)
            cases hg with
            | cells g1 g2 g3 g4 =>
              refine .cells g1 g2 (by rw [length_setNth]; exact g3) (fun t y v hy hv => ?_)
              rw [get_setNth] at hy
              split at hy
              · rename_i hc
                injection hy with hy
                subst hy
                obtain ⟨rfl, hc2⟩ := hc
                obtain ⟨o1, o2⟩ := g4 t .nil v hi hv
                rw [rep_nil o2]
                exact ⟨rfl, .own h3⟩
              · exact g4 t y v hy hv
          · exact h1.mem.blks m d h5
        · obtain ⟨d1', k1'⟩ := hold _ _ k1
          obtain ⟨d2', k2'⟩ := hold _ _ k2
          exact h1.mem.inj p q d1' d2' g' hpq k1' k2'
        · obtain ⟨d', k1'⟩ := hold _ _ k1
          exact h1.mem.ro m d' g' k1' k2
      · rintro g' ⟨m, d, k1, k2⟩
        refine h4 g' ?_
        rw [look_hset] at k1
        by_cases e1 : m = s.n
        · rw [if_pos e1] at k1
          exact ⟨m, d, by rw [look_hset, if_pos e1]; exact k1, k2⟩
        · rw [if_neg e1, look_hset] at k1
          by_cases e2 : m = b
          · subst e2
            exact ⟨m, .cells cs, by rw [look_hset, if_neg e1]; exact hb, k2⟩
          · rw [if_neg e2] at k1
            exact ⟨m, d, by rw [look_hset, if_neg e1]; exact k1, k2⟩
    · exact hK _ h
  · exact hK _ h

/-! ### What is returned, seen otherwise -/
theorem Runs.res {s : St} {R' : AV → St → Prop} (h : Runs P f kk todo s R')
    (hc : ∀ (w : World) (β : Beta) (ok : Nat → Prop) (v : AV) (s : St) (x : Value), R' v s → ARep w β ok v x → Mem w β ok s.σ → β.length = s.n → ∃ v2 s2 β2, R v2 s2 ∧ ARep w β2 ok v2 x ∧ Mem w β2 ok s2.σ ∧ β2.length = s2.n ∧ BExt β β2 ∧ ∀ g, live β2 s2.σ g → live β s.σ g) : Runs P f kk todo s R := by
  intro w β ok a b cs h1 h2 h3 h4
  obtain ⟨x, w', fr', ⟨v, s2, β2, ok2, r1, r2, ⟨r3, r5⟩, r4⟩, g2, g3, g4⟩ := h w β ok a b cs h1 h2 h3 h4
  obtain ⟨v3, s3, β3, q1, q2, q3, q4, q5, q6⟩ := hc w' β2 ok2 v s2 x r1 r2 r3 r5
  exact ⟨x, w', fr', ⟨v3, s3, β3, ok2, q1, q2, ⟨q3, q4⟩, ⟨fun n y hn hy => q5 n y (r4.ext n y hn hy), r4.okm, r4.fr, fun g hg => r4.lv g (q6 g hg), r4.okn⟩⟩, g2, g3, g4⟩

/-- nil, handed back as a row without elements. -/
def nilR (e sz : Nat) (R : AV → St → Prop) (v : AV) (s : St) : Prop :=
  match v with
  | .nil => R (.own s.n) { s with σ := hset s.n (.row e sz []) s.σ, n := s.n + 1 }
  | v => R v s
/-- A row with its spare places, handed back as a row of its own. -/
def fgtR (R : AV → St → Prop) (v : AV) (s : St) : Prop :=
  match v with
  | .fv n sz 0 len cap => match look n s.σ with
    | some (.full e sz' xs) => bif Nat.beq sz sz' then 0 < cap ∧ cap = xs.length ∧ noU (xs.take len) ∧ R (.own s.n) { s with σ := hset s.n (.row e sz (xs.take len)) (hdel n s.σ), n := s.n + 1 } else False
    | _ => False
  | v => R v s
theorem Holds.bare {w : World} {β : Beta} {ok : Nat → Prop} {s : St} (h : Mem w β ok s.σ) (hl : β.length = s.n) : Holds w β ok { s with t := [], m := 0 } { tmps := #[], defers := [] } :=
  ⟨hl, rfl, fun k v hk => by simp [look] at hk, h⟩
theorem Runs.nilres {e sz : Nat} {s : St} (h : Runs P f kk todo s (nilR e sz R)) : Runs P f kk todo s R := by
  refine h.res (fun w β ok v s x h1 h2 h3 h4 => ?_)
  unfold nilR at h1
  split at h1
  · obtain ⟨a1, a2, a3, a4⟩ := (Holds.bare h3 h4).nilRow e sz
    refine ⟨_, _, _, h1, ?_, a1.mem, a1.len, a2, a4⟩
    rw [rep_nil h2]
    exact .own a3
  · exact ⟨_, _, _, h1, h2, h3, h4, .refl _, fun _ h => h⟩
theorem Runs.fgtres {s : St} (h : Runs P f kk todo s (fgtR R)) : Runs P f kk todo s R := by
  refine h.res (fun w β ok v s x h1 h2 h3 h4 => ?_)
  unfold fgtR at h1
  split at h1
  · rename_i n sz len cap
    split at h1
    · rename_i e sz' xs hn
      obtain ⟨hb, h0, hcap, hu, hk⟩ := bif_elim h1
      have := beq_nat hb
      subst this
      obtain ⟨β2, a1, a2, a3, a4⟩ := (Holds.bare h3 h4).fgt h2 hn h0 hcap hu
      exact ⟨_, _, β2, hk, a4, a1.mem, a1.len, a2, a3⟩
    · exact h1.elim
  · exact ⟨_, _, _, h1, h2, h3, h4, .refl _, fun _ h => h⟩

/-- Blocks that nobody asks for any more. -/
def dropR (ns : List Nat) (R : AV → St → Prop) (v : AV) (s : St) : Prop := R v { s with σ := hdels ns s.σ }
theorem Runs.dropres {ns : List Nat} {s : St} (h : Runs P f kk todo s (dropR ns R)) : Runs P f kk todo s R := by
  refine h.res (fun w β ok v s x h1 h2 h3 h4 => ?_)
  have hlk : ∀ m d, look m (hdels ns s.σ) = some d → look m s.σ = some d := by
    intro m d hm
    rw [look_hdels] at hm
    split at hm
    · simp at hm
    · exact hm
  exact ⟨_, _, β, h1, h2, ⟨fun n c hc => h3.blks n c (hlk n c hc), fun n m c d g hn h5 h6 => h3.inj n m c d g hn (hlk n c h5) (hlk m d h6), fun n c g h5 h6 => h3.ro n c g (hlk n c h5) h6, h3.oklt⟩, h4, .refl _, fun g ⟨n, c, h5, h6⟩ => ⟨n, c, hlk n c h5, h6⟩⟩

/-! ### Cuts -/
def findC {α : Type} (n : Nat) : List (Nat × α) → Option (Nat × α)
  | [] => none
  | (m, x) :: r => bif Nat.beq m n then some (m, x) else findC n r
/-- At one of some points of the code (each named by its first region): the temporaries and blocks that are still wanted there, the blocks named anew. -/
def cutK (kk : Nat) (fn : Func) (cs : List (Nat × (List Nat × List Nat))) (I : Nat → St → Prop) : List Item → St → Prop := fun todo s =>
  match findC (keyOf todo) cs with
  | some (id, ex, kt) => AtL (hd fn id) todo ∧ HeadK (subF kk ex kt s) (I id)
  | none => False
theorem Runs.cut {s : St} {cs : List (Nat × (List Nat × List Nat))} {I : Nat → St → Prop} (h : cutK kk fn cs I todo s) (hI : ∀ id s', I id s' → Runs P f kk (hd fn id) s' R) : Runs P f kk todo s R := by
  unfold cutK at h
  split at h
  · rename_i id ex kt _
    exact Runs.head (L := hd fn id) h (fun s' hs => hI _ s' hs)
  · exact h.elim

/-- The blocks that some temporaries lead to, in this order. -/
def exRefs (s : St) : List Nat → List Nat
  | [] => []
  | j :: r => match look j s.t with
    | some v => refs 20 v ++ exRefs s r
    | none => exRefs s r
def exLook (s : St) (n : Nat) : Option Blk := look n s.σ
def exKeep (kk : Nat) : List Nat → List Nat
  | [] => []
  | n :: r => bif Nat.blt n kk then exKeep kk r else n :: exKeep kk r
def exOf (kk : Nat) (s : St) (kt : List Nat) : List Nat := exKeep kk (clo (exLook s) 4 (dedup (exRefs s kt) []))
def promAll : List (Nat × (Nat × Nat)) → St → (St → Prop) → Prop
  | [], s, K => K s
  | (j, (e, sz)) :: r, s, K => promK e sz j s fun s => promAll r s K
theorem Runs.promAll : ∀ {ps : List (Nat × (Nat × Nat))} {s : St} {K : St → Prop}, promAll ps s K → (∀ s', K s' → Runs P f kk todo s' R) → Runs P f kk todo s R
  | [], s, K, h, hK => hK s h
  | (j, (e, sz)) :: r, s, K, h, hK => Runs.prom h (fun s' h' => Runs.promAll h' hK)
/-- At one of some points of the code (each named by its first region): which temporaries that hold nil go on as rows; which temporaries are still wanted. The blocks are named anew. -/
def cutA (kk : Nat) (fn : Func) (cs : List (Nat × (List (Nat × (Nat × Nat)) × List Nat))) (I : Nat → St → Prop) : List Item → St → Prop := fun todo s =>
  match findC (keyOf todo) cs with
  | some (id, ps, kt) => AtL (hd fn id) todo ∧ promAll ps s fun s => HeadK (subF kk (exOf kk s kt) kt s) (I id)
  | none => False
theorem Runs.cutA {s : St} {cs : List (Nat × (List (Nat × (Nat × Nat)) × List Nat))} {I : Nat → St → Prop} (h : cutA kk fn cs I todo s) (hI : ∀ id s', I id s' → Runs P f kk (hd fn id) s' R) : Runs P f kk todo s R := by
  unfold Go.AM.cutA at h
  split at h
  · rename_i id ps kt _
    obtain ⟨h1, h2⟩ := h
    unfold AtL at h1
    subst h1
    refine Runs.promAll h2 (fun s' hs => ?_)
    unfold HeadK at hs
    split at hs
    · rename_i s2 he
      exact Runs.sub he (hI id s2 hs)
    · exact hs.elim
  · exact h.elim

/-! ### Short forms -/
/-- At one point of the code, behind changes of view. -/
def atG (L : List Item) (G : St → (St → Prop) → Prop) (I : St → Prop) : List Item → St → Prop := fun todo s => AtL L todo ∧ G s I
def subK (kk : Nat) (ex kt : List Nat) (s : St) (I : St → Prop) : Prop := HeadK (subF kk ex kt s) I
theorem Runs.subk {s : St} {ex kt : List Nat} {I : St → Prop} (h : subK kk ex kt s I) (hI : ∀ s', I s' → Runs P f kk todo s' R) : Runs P f kk todo s R := by
  unfold subK HeadK at h
  split at h
  · rename_i s' hs
    exact Runs.sub hs (hI s' h)
  · exact h.elim
/-- One of two ways to go on. -/
def orK (A B : List Item → St → Prop) : List Item → St → Prop := fun todo s => A todo s ∨ B todo s
/-- From a state on, with the whole body still to be run. -/
def evB (P : Program) (T : Nat → Option CSpec) (fn : Func) (stop : List Nat) (KS : List Item → St → Prop) (s : St) (R : AV → St → Prop) : Prop :=
  ev P T fn stop KS R 1000 [.code (bodyF fn)] s
/-- From a loop's head (or a region) on. -/
def evH (P : Program) (T : Nat → Option CSpec) (fn : Func) (stop : List Nat) (KS : List Item → St → Prop) (id : Nat) (s : St) (R : AV → St → Prop) : Prop :=
  ev P T fn stop KS R 1000 (hd fn id) s
theorem runs_evB {VC : Prop} {T : Nat → Option CSpec} {stop : List Nat} {KS : List Item → St → Prop} {s : St} (e : VC = evB P T fn stop KS s R) (hf : P.funcs[f]? = some fn)
    (hKS : ∀ todo s, KS todo s → Runs P f kk todo s R) (h : VC) : Runs P f kk [.code (bodyF fn)] s R :=
  ev_sound hf hKS 1000 _ _ (e.mp h)
theorem runs_evH {VC : Prop} {T : Nat → Option CSpec} {stop : List Nat} {KS : List Item → St → Prop} {id : Nat} {s : St} (e : VC = evH P T fn stop KS id s R) (hf : P.funcs[f]? = some fn)
    (hKS : ∀ todo s, KS todo s → Runs P f kk todo s R) (h : VC) : Runs P f kk (hd fn id) s R :=
  ev_sound hf hKS 1000 _ _ (e.mp h)
theorem acalls_runsE {args : List AV} {σ : Heap} {v : AV} {σ' : Heap} (hf : P.funcs[f]? = some fn) (hb : fn.body.isSome = true)
    (h : Runs P f σ.length [.code (bodyF fn)] (initSt fn args σ) (RetE σ.length v σ')) : ACalls P f args σ v σ' := by
  cases hbb : fn.body with
  | none => rw [hbb] at hb; simp at hb
  | some body =>
    refine acalls_ofE hf hbb ?_
    have e : bodyF fn = body := by simp [bodyF, hbb]
    rw [← e]
    exact h
theorem acalls_runs {args : List AV} {σ : Heap} {ex : List Nat} {v : AV} {σ' : Heap} (hf : P.funcs[f]? = some fn) (hb : fn.body.isSome = true)
    (h : Runs P f σ.length [.code (bodyF fn)] (initSt fn args σ) (RetR σ.length ex v σ')) : ACalls P f args σ v σ' := by
  cases hbb : fn.body with
  | none => rw [hbb] at hb; simp at hb
  | some body =>
    refine acalls_of ex hf hbb ?_
    have e : bodyF fn = body := by simp [bodyF, hbb]
    rw [← e]
    exact h
end
end Go.AM
