/- Each operation's formula is sound: append; all operations together. -/
import Derived.Test.YthcpekjcnokonaaAm24
import Derived.Maps.AppendAt
namespace Go.AM
open Go.RowKit

section
variable {P : Program} {o : Oper} {a : Act} {w : World} {β : Beta} {ok : Nat → Prop} {σ : Heap} {nm : Nat} {ρ : Env} {F : Nat → Option Blk}

theorem ownBlock_bk {A : Option Addr} {l c : Nat} : (Value.slice A l c).ownBlock = bk (.slice A l c) := by cases A <;> rfl

theorem run_append_zero {t ty e : TypeId} {i : TypeInfo} (ht : P.underlying t = some (.slice e)) (hi : P.info? e = some i) {base size n : Nat} {v : Value} {xs : List Value} (hown : w.ownsRow base e size v n xs) (A : Option Addr) (c : Nat) :
    (Builtin.append_ #[t, t] ty #[v, .slice A 0 c]).run P w = .ok v w := by
  have hf : (Builtin.firstCells i.size 0 (.slice A 0 c)).run P w = .ok #[] w := by
    cases A <;> simp [Builtin.firstCells, loadCells, loadCellsFrom]
  rcases hown.2 with ⟨rfl, rfl⟩ | ⟨g, cap, cur, rfl, _, _, hnc, _⟩
  · simp [Builtin.append_, run_underlying ht, Go.sizeOf, typeInfo, hi, Builtin.lenOf, hf]
  · simp [Builtin.append_, run_underlying ht, Go.sizeOf, typeInfo, hi, Builtin.lenOf, hf, hnc, storeCells]

/-- An append onto a row (or nil), whatever is appended. -/
theorem append_sound {t ty e : TypeId} {i : TypeInfo} {z v xv : Value} {xs ys : List (List AV)} {cells news : List Value} {A : Option Addr} {c : Nat} (ht : P.underlying t = some (.slice e)) (hi : P.info? e = some i) (hz : i.zero = some z)
    (hzs : z.cells.size = i.size) (hsz : 0 < i.size) (ho : w.ownsRow 0 e i.size v xs.length cells) (hx : xv = .slice A ys.length c) (hl : news.length = ys.length * i.size)
    (hA : 0 < ys.length → ∃ ad, A = some ad ∧ ∀ (j : Nat) (u : Value), news[j]? = some u → w.cell? (ad.add j) = some u) (h1 : ∀ u ∈ news, u.oneCell' = true)
    (hb : (xs.length + ys.length) * i.bytes ≤ 140737488355328) (h63 : xs.length + ys.length ≤ 9223372036854775807) :
    ∃ v' w', (Builtin.append_ #[t, t] ty #[v, xv]).run P w = .ok v' w' ∧ w'.ownsRow 0 e i.size v' (xs.length + ys.length) (cells ++ news) ∧ w.grownBy w' (bk v) ∧ (∀ g, bk v' = some g → bk v = some g ∨ w.heap.size ≤ g) ∧
      ∃ A' l' c', v' = .slice A' l' c' := by
  subst hx
  have hform : ∃ A0 l0 c0, v = .slice A0 l0 c0 := by
    rcases ho.2 with ⟨rfl, _⟩ | ⟨g, cap, cur, rfl, _⟩ <;> exact ⟨_, _, _, rfl⟩
  obtain ⟨A0, l0, c0, rfl⟩ := hform
  by_cases h0 : ys.length = 0
  · have hn : news = [] := List.eq_nil_of_length_eq_zero (by rw [hl, h0]; simp)
    subst hn
    rw [h0]
    exact ⟨_, w, run_append_zero ht hi ho A c, by simpa using ho, ⟨rfl, rfl, rfl, Nat.le_refl _, fun _ _ _ => rfl⟩, fun g hg => .inl hg, _, _, _, rfl⟩
  · obtain ⟨ad, rfl, hcell⟩ := hA (by omega)
    obtain ⟨v', w', r1, r2, r3, r4, r5⟩ := run_append_own_at (P := P) w 0 t ty e i z i.size i.bytes ht hi hz rfl rfl hzs hsz _ xs.length cells ho ad ys.length c news hl hcell h1 (by unfold maxLen; omega) hb (Nat.zero_le _)
    obtain ⟨A0', l0', c0', rfl⟩ : ∃ A' l' c', v' = .slice A' l' c' := by
      rcases r2.2 with ⟨rfl, _⟩ | ⟨g, cap, cur, rfl, _⟩ <;> exact ⟨_, _, _, rfl⟩
    rw [ownBlock_bk] at r3 r5
    rw [ownBlock_bk] at r5
    refine ⟨_, w', r1, r2, r3, fun g hg => ?_, _, _, _, rfl⟩
    rcases r5 with r5 | r5
    · exact .inl (r5 ▸ hg)
    · rw [r5] at hg
      injection hg with hg
      exact .inr (by omega)

theorem appendK_sound {t ty : TypeId} {s x : AV} {sv xv : Value} {K : AV → Upd → Prop} (h : appendK P nm t F s x K) (hs : ARep w β ok s sv) (hx : ARep w β ok x xv) (hm : Mem w β ok σ) (hF : ∀ n c, F n = some c → look n σ = some c)
    (hn : β[nm]? = some none) : ∃ v u r w' β', K v u ∧ (Builtin.append_ #[t, t] ty #[sv, xv]).run P w = .ok r w' ∧ ARep w' β' ok v r ∧ OpOK w β ok σ nm w' β' ok u := by
  unfold appendK at h
  split at h
  · rename_i e he
    split at h
    · rename_i i z q ys hi hz hq
      obtain ⟨hb, h'⟩ := bif_elim h
      rw [Bool.and_eq_true] at hb
      have hzl := beq_nat hb.1
      have hsz : 0 < i.size := by
        have := hb.2
        exact Nat.le_of_ble_eq_true this
      obtain ⟨i', zv, g1, g2, g3, _⟩ := zeroCells_rep hz
      rw [hi] at g1
      injection g1 with g1
      subst g1
      have ht := elemT_eq he
      split at h'
      · obtain ⟨c1, c2, c3, hK⟩ := h'
        have := rep_nil hs
        subst this
        obtain ⟨A, c, news, hxv, hl, hA, h1, hrr⟩ := src_rep hx hm hF hq c3
        obtain ⟨v', w', r1, r2, r3, r4, A', l', c', rfl⟩ := append_sound (P := P) (ty := ty) (xs := []) (cells := []) ht hi g2 (by omega) hsz (World.ownsRow_nil w 0 e i.size) hxv hl hA h1 (by simpa using c1) (by simpa using c2)
        simp only [List.length_nil, Nat.zero_add, List.nil_append] at r2
        have hnew : ∀ g, bk (.slice A' l' c') = some g → w.heap.size ≤ g := fun g hg => (r4 g hg).elim (fun hh => by simp [bk] at hh) id
        have hfr : Fr (fun _ => False) w w' := ⟨r3.os, r3.tape, r3.output, r3.size, fun g hg _ => r3.block g hg (by simp [bk])⟩
        have hok : ∀ g, ok g → w'.heap[g]? = w.heap[g]? := fun g hg => hfr.block g (hm.oklt g hg) id
        have hset := get_set (.slice A' l' c') hn
        have hgood : GoodBlk w' (β.set nm (some (.slice A' l' c'))) ok nm (.row e i.size ys) := .row hset r2 (hrr.mono hok)
        exact ⟨_, _, _, w', _, hK, r1, .own hset, OpOK.new hm hn hfr hnew hgood⟩
      · rename_i n
        split at h'
        · rename_i e' sz xs hFn
          obtain ⟨hb2, c1, c2, c3, hK⟩ := bif_elim h'
          rw [Bool.and_eq_true] at hb2
          have he' := beq_nat hb2.1
          have hsz' := beq_nat hb2.2
          subst he'
          subst hsz'
          have hlk := hF n _ hFn
          obtain ⟨A, c, news, hxv, hl, hA, h1, hrr⟩ := src_rep hx hm hF hq c3
          cases hm.blks n _ hlk with
          | @row _ _ _ v0 cells hb0 ho hr =>
            cases hs with
            | p hp => cases hp
            | @own _ A0 l0 c0 hp =>
              rw [hp] at hb0
              simp only [Option.some.injEq] at hb0
              subst hb0
              obtain ⟨v', w', r1, r2, r3, r4, A', l', c', rfl⟩ := append_sound (P := P) (ty := ty) ht hi g2 (by omega) hsz ho hxv hl hA h1 c1 c2
              have hset := get_set (.slice A' l' c') hn
              have hfr : Fr (fun g => blockOf β n = some g) w w' := ⟨r3.os, r3.tape, r3.output, r3.size, fun g hg hne => r3.block g hg (fun hh => hne (by rw [blockOf_some hp]; exact hh.symm))⟩
              have hfr2 : Fr (live β σ) w w' := hfr.mono (fun g hg => ⟨n, _, hlk, hg⟩)
              have hok := hm.okfr hfr2
              have hrow : RowRep w ok i.size (xs ++ ys) (cells ++ news) := RowRep.append hr ho.1 hrr
              refine ⟨_, _, _, w', _, hK, r1, .own hset, OpOK.app hm hn hlk hfr (fun g hg => ?_) (.row hset (by rw [List.length_append]; exact r2) (hrow.mono hok))⟩
              rcases r4 g hg with h4 | h4
              · exact .inl (by rw [blockOf_some hp]; exact h4)
              · exact .inr h4
        · exact h'.elim
      · exact h'.elim
    · exact h.elim
  · exact h.elim

/-! ### All operations together -/
theorem rep_ptr {n off : Nat} {x : Value} (h : ARep w β ok (.ptr n off) x) : ∃ g, x = .pointer (some ⟨g, off, none⟩) ∧ β[n]? = some (some (.pointer (some ⟨g, 0, none⟩))) := by
  cases h with
  | p hp => cases hp
  | ptr hp => exact ⟨_, rfl, hp⟩
theorem rep_eptr {n sz j off : Nat} {x : Value} (h : ARep w β ok (.eptr n sz j off) x) : ∃ g l c, x = .pointer (some ⟨g, j * sz + off, none⟩) ∧ β[n]? = some (some (.slice (some ⟨g, 0, none⟩) l c)) := by
  cases h with
  | p hp => cases hp
  | eptr hp => exact ⟨_, _, _, rfl, hp⟩
theorem rep_fn {f : Nat} {p q : List AV} {x : Value} (h : ARep w β ok (.fn f p q) x) : ∃ A B, x = .func (.func f) A B ∧ RepL w β ok p A ∧ RepL w β ok q B := by
  cases h with
  | p hp => cases hp with | fn l1 l2 r1 r2 => exact ⟨_, _, rfl, ⟨l1, fun j a v x y => .p (r1 j a v x y)⟩, ⟨l2, fun j a v x y => .p (r2 j a v x y)⟩⟩
  | fn l1 l2 r1 r2 => exact ⟨_, _, rfl, ⟨l1, r1⟩, ⟨l2, r2⟩⟩
theorem mapM_rep (hr : ∀ x v, ρ x = some v → ARep w β ok v (a.eval x)) : ∀ (l : List Operand) (vs : List AV), l.mapM ρ = some vs → RepL w β ok vs (l.map a.eval).toArray
  | [], vs, h => by
    simp at h
    subst h
    exact ⟨rfl, fun j b v hb => by simp at hb⟩
  | x :: l, vs, h => by
    simp only [List.mapM_cons, Option.bind_eq_bind, Option.bind_eq_some_iff] at h
    obtain ⟨v, hv, vs', hvs, h⟩ := h
    simp only [Option.pure_def, Option.some.injEq] at h
    subst h
    obtain ⟨h1, h2⟩ := mapM_rep hr l vs' hvs
    refine ⟨by simpa using h1, fun j b y hb hy => ?_⟩
    cases j with
    | zero =>
      simp at hb hy
      subst hb
      subst hy
      exact hr x _ hv
    | succ j => exact h2 j b y (by simpa using hb) (by simpa using hy)

theorem op_sound {K : AV → Upd → Prop} (hs : Sit w β ok σ nm a ρ F) (h : opK P o nm ρ F K) : ∃ v u, K v u ∧ ODone P o a w β ok σ nm v u := by
  have hm := hs.hm
  have hn := hs.hn
  have hF := hs.hF
  unfold opK at h
  split at h
  · rename_i x ho
    split at h
    · rename_i v hv
      exact ⟨_, _, h, .quiet hm (by simp [execOp, ho]) (hs.hr x v hv)⟩
    · exact h.elim
  · rename_i x ho
    split at h
    · rename_i v hv
      exact ⟨_, _, h, .quiet hm (by simp [execOp, ho]) (hs.hr x v hv)⟩
    · exact h.elim
  · rename_i c p q ho
    split at h
    · rename_i t ht
      have hc := rep_bool (hs.hr c _ ht)
      rcases brP_elim h with ⟨rfl, h'⟩ | ⟨rfl, h'⟩
      · cases hv : ρ p with
        | none => rw [hv] at h'; exact h'.elim
        | some v =>
          rw [hv] at h'
          exact ⟨_, _, (h' : K v .none), .quiet hm (by simp [execOp, ho, hc, asBool]) (hs.hr p v hv)⟩
      · cases hv : ρ q with
        | none => rw [hv] at h'; exact h'.elim
        | some v =>
          rw [hv] at h'
          exact ⟨_, _, (h' : K v .none), .quiet hm (by simp [execOp, ho, hc, asBool]) (hs.hr q v hv)⟩
    · exact h.elim
  · rename_i t ho
    split at h
    · rename_i cs hz
      obtain ⟨i, z, g1, g2, g3, g4⟩ := zeroCells_rep hz
      have hnew := new_cells (β := β) (cs := cs) (arr := z.cells) t hm hn g3 (fun j y x hy hx => ⟨(g4 w ok j y x hy hx).2, .p (g4 w ok j y x hy hx).1⟩)
      refine ⟨_, _, h, _, _, _, _, ok, ?_, .inl rfl, hnew.1, hnew.2⟩
      simp [execOp, ho, Instr.alloc, zeroValue, typeInfo, g1, g2, newVar, newRow]
    · exact h.elim
  · rename_i t x ho
    split at h
    · rename_i cs hc
      obtain ⟨v, hv, hvc⟩ := Option.bind_eq_some_iff.1 hc
      obtain ⟨g1, g2⟩ := cellsOf_rep (hs.hr x v hv) hvc
      have hnew := new_cells (β := β) (cs := cs) (arr := (a.eval x).cells) t hm hn g1 g2
      refine ⟨_, _, h, _, _, _, _, ok, ?_, .inl rfl, hnew.1, hnew.2⟩
      simp [execOp, ho, Instr.box, newVar, newRow]
    · exact h.elim
  · rename_i t parts ho
    split at h
    · rename_i fs z hu hz
      obtain ⟨hb, h'⟩ := bif_elim h
      split at h'
      · rename_i cs hc
        obtain ⟨x, r1, r2⟩ := build_sound hs hu hz hb hc
        exact ⟨_, _, h', .quiet hm (by simp only [execOp, ho]; simp only [Sem.run_bind]; rw [show (parts.map fun (i, x) => (i, a.eval x)) = parts.map fun p => (p.1, a.eval p.2) from rfl, r1]; simp) r2⟩
      · exact h'.elim
    · exact h.elim
  · rename_i t len parts ho
    split at h
    · rename_i e he
      split at h
      · rename_i sz z hsz hz
        obtain ⟨hb, h'⟩ := bif_elim h
        rw [Bool.and_eq_true, Bool.and_eq_true] at hb
        split at h'
        · rename_i cs hc
          obtain ⟨hp, hK⟩ := bif_elim h'
          obtain ⟨x, w', β', r1, r2, r3⟩ := buildSlice_sound hs he hsz hz (Nat.le_of_ble_eq_true hb.1.1) (ble_nat hb.1.2) (beq_nat hb.2) hc hp
          exact ⟨_, _, hK, _, _, _, _, ok, by simp only [execOp, ho]; simp only [Sem.run_bind]; rw [show (parts.map fun (i, x) => (i, a.eval x)) = parts.map fun p => (p.1, a.eval p.2) from rfl, r1]; simp, .inl rfl, r2, r3⟩
        · exact h'.elim
      · exact h.elim
    · exact h.elim
  · rename_i t x ho
    split at h
    · rename_i v hv
      obtain ⟨v', r, hK, r1, r2⟩ := loadK_sound h (hs.hr x v hv) hm hF
      exact ⟨_, _, hK, .quiet hm (by simp [execOp, ho, r1]) r2⟩
    · exact h.elim
  · rename_i t x v ho
    split at h
    · rename_i p q hp hq
      obtain ⟨u, w', hK, r1, r2⟩ := storeK_sound (nm := nm) h (hs.hr x p hp) (hs.hr v q hq) hm hF
      exact ⟨_, _, hK, _, undef, w', β, ok, by simp [execOp, ho, r1], .inr ⟨rfl, rfl⟩, .u _, r2⟩
    · exact h.elim
  · rename_i x ho
    have ptr : ∀ v, ρ x = some v → (∃ ad, a.eval x = .pointer (some ad)) ∨ (∃ f A B, a.eval x = .func (.func f) A B) → K v .none → ∃ v u, K v u ∧ ODone P o a w β ok σ nm v u := by
      intro v hv hx hK
      refine ⟨_, _, hK, .quiet hm ?_ (hs.hr x v hv)⟩
      rcases hx with ⟨ad, hx⟩ | ⟨f, A, B, hx⟩ <;> simp [execOp, ho, hx]
    split at h
    · rename_i n off hv
      obtain ⟨g, hx, _⟩ := rep_ptr (hs.hr x _ hv)
      exact ptr _ hv (.inl ⟨_, hx⟩) h
    · rename_i n sz j off hv
      obtain ⟨g, l, c, hx, _⟩ := rep_eptr (hs.hr x _ hv)
      exact ptr _ hv (.inl ⟨_, hx⟩) h
    · rename_i cs hv
      obtain ⟨ad, hx, _⟩ := pp_cells (hs.hr x _ hv)
      exact ptr _ hv (.inl ⟨ad, hx⟩) h
    · rename_i f p q hv
      obtain ⟨A, B, hx, _⟩ := rep_fn (hs.hr x _ hv)
      exact ptr _ hv (.inr ⟨_, A, B, hx⟩) h
    · exact h.elim
  · rename_i op t x y ty ho
    split at h
    · rename_i p q hp hq
      obtain ⟨v, r, hK, r1, r2, r3⟩ := binK_sound (w := w) h (hs.hr x p hp) (hs.hr y q hq)
      exact ⟨_, _, hK, .quiet hm (by simp [execOp, ho, r1, r3]) (.p r2)⟩
    · exact h.elim
  · rename_i op t x ho
    split at h
    · rename_i k n hx
      have e := rep_int (hs.hr x _ hx)
      exact ⟨_, _, h, .quiet hm (by simp [execOp, ho, e, Op.unary, Op.intArith]) (.p (.i _ _))⟩
    · rename_i t hx
      have e := rep_bool (hs.hr x _ hx)
      exact ⟨_, _, h, .quiet hm (by simp [execOp, ho, e, Op.unary]) (.p (.b _))⟩
    · exact h.elim
  · rename_i s d x ho
    split at h
    · rename_i d1 k k' n h1 h2 hx
      have e := rep_int (hs.hr x _ hx)
      exact ⟨_, _, h, .quiet hm (by simp [execOp, ho, e, convert, run_underlying h1, run_underlying h2, Conv.intToInt]) (.p (.i _ _))⟩
    · rename_i d1 t h1 h2 hx
      have e := rep_str (hs.hr x _ hx)
      exact ⟨_, _, h, .quiet hm (by simp [execOp, ho, e, convert, run_underlying h1, run_underlying h2]) (.p (.s _))⟩
    · exact h.elim
  · rename_i f first caps ho
    split at h
    · rename_i p q hp hq
      have r1 := mapM_rep hs.hr _ _ hp
      have r2 := mapM_rep hs.hr _ _ hq
      refine ⟨_, _, h, .quiet hm (x := .func (.func f) (first.toList.map a.eval).toArray (caps.toList.map a.eval).toArray) ?_ (.fn r1.1 r2.1 r1.2 r2.2)⟩
      simp only [execOp, ho, Instr.makeFunc, Sem.run_bind, Sem.run_pure, Result.andThen_ok]
      rw [← Array.toList_map, ← Array.toList_map]
    · exact h.elim
  · rename_i t l c ho
    split at h
    · rename_i e k n k' m he hl hc
      split at h
      · rename_i i z hi hz
        obtain ⟨c0, c1, c2, c3, c4, hK⟩ := h
        have e1 := rep_int (hs.hr l _ hl)
        have e2 := rep_int (hs.hr c _ hc)
        obtain ⟨x, w', β', r1, r2, r3⟩ := makeSlice_sound (kl := k) (kc := k') hm hn he hi hz c0 c1 c2 c3 c4
        exact ⟨_, _, hK, _, x, w', β', ok, by simp [execOp, ho, e1, e2, r1], .inl rfl, r2, r3⟩
      · exact h.elim
    · exact h.elim
  · rename_i t x lo hi ho
    split at h
    · rename_i v hv
      split at h
      · exact h.elim
      · exact h.elim
      · rename_i h1 h2
        have hlo : OptRep w β ok (lo.map ρ).join (lo.map a.eval) := by
          cases lo with
          | none => trivial
          | some q =>
            cases hq : ρ q with
            | none => exact absurd (by simp [hq]) h1
            | some r => simpa [OptRep, hq] using hs.hr q r hq
        have hhi : OptRep w β ok (hi.map ρ).join (hi.map a.eval) := by
          cases hi with
          | none => trivial
          | some q =>
            cases hq : ρ q with
            | none => exact absurd (by simp [hq]) h2
            | some r => simpa [OptRep, hq] using hs.hr q r hq
        obtain ⟨v', r, hK, r1, r2⟩ := sliceK_sound h (hs.hr x v hv) hlo hhi hm hF
        exact ⟨_, _, hK, .quiet hm (by simp [execOp, ho, r1]) r2⟩
    · exact h.elim
  · rename_i s x f ho
    split at h
    · rename_i off ft hf
      split at h
      · rename_i sz hsz
        have hfield : ∀ ad, (Instr.fieldAt s (.pointer (some ad)) f).run P w = .ok (.pointer (some (ad.add off))) w := by
          intro ad
          unfold fieldT at hf
          split at hf
          · rename_i fs hu
            obtain ⟨fd, hfd, e⟩ := Option.map_eq_some_iff.1 hf
            simp only [Prod.mk.injEq] at e
            obtain ⟨rfl, rfl⟩ := e
            simp [Instr.fieldAt, run_underlying hu, hfd, Instr.sureAddr, fieldPlace, run_sizeOf w hsz]
          · simp at hf
        split at h
        · rename_i n o' hx
          obtain ⟨g, e, hb⟩ := rep_ptr (hs.hr x _ hx)
          exact ⟨_, _, h, .quiet hm (by simp [execOp, ho, e, hfield]; rfl) (by rw [Addr.add_lit]; exact .ptr hb)⟩
        · rename_i n szz j o' hx
          obtain ⟨g, l, c, e, hb⟩ := rep_eptr (hs.hr x _ hx)
          exact ⟨_, _, h, .quiet hm (by simp [execOp, ho, e, hfield]; rfl) (by rw [Addr.add_lit, Nat.add_assoc]; exact .eptr hb)⟩
        · rename_i cs hx
          obtain ⟨hb, hK⟩ := bif_elim h
          have hle := ble_nat hb
          obtain ⟨ad, e, hok, hc, hr⟩ := pp_cells (hs.hr x _ hx)
          obtain ⟨g, g1, g2⟩ := hc
          refine ⟨_, _, hK, .quiet hm (x := .pointer (some (ad.add off))) (by simp [execOp, ho, e, hfield]) (.p (.pp (fun t => g (off + t)) (by rw [block_add]; exact hok) (fun t ht => ?_) (fun t ht => ?_) (fun t y hy => ?_)))⟩
          · rw [add_add]; exact g1 _ (by rw [List.length_drop] at ht; omega)
          · have : off + t < cs.length := by rw [List.length_drop] at ht; omega
            exact (g2 _ _ (List.getElem?_eq_getElem this)).1
          · rw [List.getElem?_drop] at hy
            exact hr g g1 _ y hy
        · exact h.elim
      · exact h.elim
    · exact h.elim
  · rename_i s x f ho
    split at h
    · rename_i off ft cs hf hx
      split at h
      · rename_i sz ag hsz hag
        obtain ⟨hb, h'⟩ := bif_elim h
        have hle := ble_nat hb
        split at h'
        · rename_i v hv
          obtain ⟨V, e, hR, hO⟩ := rep_ag (hs.hr x _ hx)
          have hpart : ∃ r, (part ft V off).run P w = .ok r w ∧ ARep w β ok v r := by
            have hlen := hR.1
            have hrep := hR.extract off sz hle
            obtain ⟨e1, e2⟩ := ofCells_rep (w := w) (β := β) (ok := ok) (g := fun j => (V[off + j]?).getD undef) hv (show ((cs.drop off).take sz).length = sz by simp; omega) (fun j y hy => by
              have hj : j < sz := by have := (List.getElem?_eq_some_iff.1 hy).1; simp at this; omega
              have hV : V[off + j]? = some V[off + j] := by simp
              simp only [hV, Option.getD_some]
              refine ⟨hO _ _ hV, hR.2 (off + j) y _ ?_ hV⟩
              rw [List.getElem?_take, if_pos hj, List.getElem?_drop] at hy
              exact hy)
            cases ag with
            | true =>
              refine ⟨_, ?_, e2⟩
              unfold part
              simp only [Sem.run_bind, run_isAgg w hag, Result.andThen_ok, if_true, run_sizeOf w hsz, Sem.run_pure]
              congr 2
              apply Array.ext'
              apply List.ext_getElem?
              intro j
              simp only [Array.getElem?_toList, List.getElem?_map, Array.getElem?_extract]
              by_cases hj : j < sz
              · rw [if_pos (by omega), List.getElem?_range hj]
                have : V[off + j]? = some V[off + j] := by simp
                simp [this]
              · rw [if_neg (by omega), List.getElem?_eq_none (by simpa using hj)]; rfl
            | false =>
              refine ⟨_, ?_, e2⟩
              have hs1 := e1 rfl
              have hV : V[off]? = some V[off] := by simp
              unfold part
              simp [run_isAgg w hag, hV]
          obtain ⟨r, r1, r2⟩ := hpart
          refine ⟨_, _, h', .quiet hm ?_ r2⟩
          unfold fieldT at hf
          split at hf
          · rename_i fs hu
            obtain ⟨fd, hfd, ee⟩ := Option.map_eq_some_iff.1 hf
            simp only [Prod.mk.injEq] at ee
            obtain ⟨rfl, rfl⟩ := ee
            simp [execOp, ho, e, Instr.field, run_underlying hu, hfd, asAgg, r1]
          · simp at hf
        · exact h'.elim
      · exact h.elim
    · exact h.elim
  · rename_i t x i ho
    split at h
    · rename_i p q hp hq
      obtain ⟨v, r, hK, r1, r2⟩ := indexAddrK_sound h (hs.hr x p hp) (hs.hr i q hq) hm hF
      exact ⟨_, _, hK, .quiet hm (by simp [execOp, ho, r1]) r2⟩
    · exact h.elim
  · rename_i t x i ho
    split at h
    · rename_i s k n hu hx hi
      obtain ⟨h0, c, hc, hK⟩ := h
      have e1 := rep_str (hs.hr x _ hx)
      have e2 := rep_int (hs.hr i _ hi)
      exact ⟨_, _, hK, .quiet hm (by simp [execOp, ho, e1, e2, Instr.index, asIntOf, run_underlying hu, h0, hc]) (.p (.i _ _))⟩
    · exact h.elim
  · rename_i x i ho
    split at h
    · rename_i vs hx
      split at h
      · rename_i v hv
        obtain ⟨V, e, hR⟩ := rep_tup (hs.hr x _ hx)
        have hi : i < V.size := by have := (List.getElem?_eq_some_iff.1 hv).1; have := hR.1; omega
        have hV : V[i]? = some V[i] := by simp [hi]
        exact ⟨_, _, h, .quiet hm (x := V[i]) (by simp [execOp, ho, e, Instr.extract, hV]) (hR.2 i v _ hv hV)⟩
      · exact h.elim
    · exact h.elim
  · rename_i t ho
    split at h
    · rename_i kt e hu
      obtain ⟨x, w', β', r1, r2, r3⟩ := makeMap_sound (P := P) (t := t) hm hn
      exact ⟨_, _, h, _, x, w', β', ok, by simp [execOp, ho, r1], .inl rfl, r2, r3⟩
    · exact h.elim
  · rename_i t m k okb ho
    split at h
    · rename_i p q hp hq
      obtain ⟨v, r, hK, r1, r2⟩ := lookupK_sound h (hs.hr m p hp) (hs.hr k q hq) hm hF
      exact ⟨_, _, hK, .quiet hm (by simp [execOp, ho, r1]) r2⟩
    · exact h.elim
  · rename_i t m k v ho
    split at h
    · rename_i p q r hp hq hr
      obtain ⟨u, w', hK, r1, r2⟩ := mapUpdateK_sound (nm := nm) h (hs.hr m p hp) (hs.hr k q hq) (hs.hr v r hr) hm hF
      exact ⟨_, _, hK, _, undef, w', β, ok, by simp [execOp, ho, r1], .inr ⟨rfl, rfl⟩, .u _, r2⟩
    · exact h.elim
  · rename_i c ho
    split at h
    · rename_i hcal
      split at h
      · rename_i t x ht hx
        split at h
        · rename_i v hv
          have hargs : c.args = #[x] := by apply Array.ext'; exact hx
          obtain ⟨v', r, hK, r1, r2⟩ := lenK_sound (ty := o.type) h ht (hs.hr x v hv) hm hF
          exact ⟨_, _, hK, .quiet hm (by simp [execOp, ho, resolve, hcal, invoke, builtin, hargs, r1]) r2⟩
        · exact h.elim
      · exact h.elim
    · rename_i hcal
      split at h
      · rename_i t t' s x ht hx
        obtain ⟨hb, h'⟩ := bif_elim h
        have hb' := beq_nat hb
        subst hb'
        split at h'
        · rename_i p q hp hq
          have hargs : c.args = #[s, x] := by apply Array.ext'; exact hx
          have htys : c.argTypes = #[t, t] := by apply Array.ext'; exact ht
          obtain ⟨v, u, r, w', β', hK, r1, r2, r3⟩ := appendK_sound (ty := o.type) h' (hs.hr s p hp) (hs.hr x q hq) hm hF hn
          exact ⟨_, _, hK, _, r, w', β', ok, by simp [execOp, ho, resolve, hcal, invoke, builtin, hargs, htys, r1], .inl rfl, r2, r3⟩
        · exact h'.elim
      · exact h.elim
    · rename_i hcal
      split at h
      · rename_i x y hx
        split at h
        · rename_i k p k' q hp hq
          have hargs : c.args = #[x, y] := by apply Array.ext'; exact hx
          have e1 := rep_int (hs.hr x _ hp)
          have e2 := rep_int (hs.hr y _ hq)
          exact ⟨_, _, h, .quiet hm (by simp [execOp, ho, resolve, hcal, invoke, builtin, hargs, Builtin.min_, Builtin.min2, e1, e2]) (.p (.i _ _))⟩
        · exact h.elim
      · exact h.elim
    · rename_i hcal
      split at h
      · rename_i x y hx
        split at h
        · rename_i k p k' q hp hq
          have hargs : c.args = #[x, y] := by apply Array.ext'; exact hx
          have e1 := rep_int (hs.hr x _ hp)
          have e2 := rep_int (hs.hr y _ hq)
          exact ⟨_, _, h, .quiet hm (by simp [execOp, ho, resolve, hcal, invoke, builtin, hargs, Builtin.max_, Builtin.max2, e1, e2]) (.p (.i _ _))⟩
        · exact h.elim
      · exact h.elim
    · exact h.elim
  · exact h.elim
end
end Go.AM
