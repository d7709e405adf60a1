/- Each operation's formula is sound (continued): indexes, cuts, lengths, rows that are made or appended to. -/
import Derived.Test.YthcpekjcnokonaaAm7
namespace Go.AM
open Go.RowKit

section
variable {P : Program} {o : Oper} {a : Act} {w : World} {β : Beta} {ok : Nat → Prop} {σ : Heap} {nm : Nat} {ρ : Env} {F : Nat → Option Blk}

theorem block_add (a : Addr) (n : Nat) : (a.add n).block = a.block := by unfold Addr.add; split <;> rfl

theorem own_len {e sz n l c : Nat} {A : Option Addr} {cells : List Value} (h : w.ownsRow 0 e sz (.slice A l c) n cells) : l = n ∧ n ≤ c := by
  rcases h.2 with ⟨e1, e2⟩ | ⟨g, cap, cur, e1, _, _, hnc, _⟩
  · simp at e1; omega
  · simp at e1; omega

theorem elemT_eq {t e : TypeId} (h : elemT P t = some e) : P.underlying t = some (.slice e) := by
  unfold elemT at h
  split at h
  · injection h with h; subst h; assumption
  · simp at h

/-! ### Indexes -/
theorem indexAddrK_sound {t : TypeId} {p q : AV} {x y : Value} {K : AV → Prop} (h : indexAddrK P t F p q K) (hx : ARep w β ok p x) (hy : ARep w β ok q y) (hm : Mem w β ok σ) (hF : ∀ n c, F n = some c → look n σ = some c) :
    ∃ v r, K v ∧ (Instr.indexAt t x y).run P w = .ok r w ∧ ARep w β ok v r := by
  unfold indexAddrK at h
  split at h
  · rename_i e k i hu
    have ey := rep_int hy
    subst ey
    split at h
    · rename_i sz hsz
      have go : ∀ (ad : Addr) (len c : Nat), 0 ≤ i → i < len → (Instr.indexAt t (.slice (some ad) len c) (.int k i)).run P w = .ok (.pointer (some (ad.add (i.toNat * sz)))) w := by
        intro ad len c h0 h1
        simp [Instr.indexAt, asIntOf, run_underlying hu, h0, h1, run_sizeOf w hsz]
      split at h
      · rename_i xs
        obtain ⟨h0, h1, h2⟩ := h
        obtain ⟨cs, hcs, hcl, hK⟩ := exCells_ex _ _ _ h2
        cases hx with
        | p hp => cases hp with
          | @sl _ A c sz' g hc hni hw had h1' hr =>
            have hj : i.toNat < xs.length := by omega
            obtain ⟨ad, rfl, hok, hcell⟩ := had (by omega)
            have hsz' : sz' = sz := by rw [← hw _ _ hcs, hcl]
            subst hsz'
            refine ⟨_, _, hK, go ad _ _ h0 h1, .p (.pp (fun t => g (i.toNat * sz' + t)) (by rw [block_add]; exact hok) (fun t' ht => ?_) (fun t' ht => ?_) (fun t' z hz => hr _ _ _ _ hcs hz))⟩
            · rw [add_add]; exact hcell _ (mul_in hj (by omega))
            · exact h1' _ (mul_in hj (by omega))
      · rename_i n
        split at h
        · rename_i e0 sz' xs hFn
          obtain ⟨hb, h0, h1, hK⟩ := bif_elim h
          have hb' := beq_nat hb
          subst hb'
          have hl := hF n _ hFn
          cases hm.blks n _ hl with
          | @row _ _ _ v0 cells hb0 ho hr =>
            cases hx with
            | p hp => cases hp
            | @own _ A l c hp =>
              rw [hp] at hb0
              simp only [Option.some.injEq] at hb0
              subst hb0
              rcases ho.2 with ⟨e1, e2⟩ | ⟨g, cap, cur, e1, _⟩
              · omega
              · simp only [Value.slice.injEq] at e1
                obtain ⟨rfl, rfl, rfl⟩ := e1
                refine ⟨_, _, hK, go ⟨g, 0, none⟩ _ _ h0 h1, ?_⟩
                rw [Addr.add_lit, Nat.zero_add, show i.toNat * sz = i.toNat * sz + 0 by omega]
                exact .eptr hp
        · exact h.elim
      · rename_i n sz' off len
        obtain ⟨hb, h0, h1, hK⟩ := bif_elim h
        have hb' := beq_nat hb
        subst hb'
        cases hx with
        | p hp => cases hp
        | @row _ _ _ _ g l c c' A hp hc hll hin ha =>
          have hA := ha (by omega)
          subst hA
          refine ⟨_, _, hK, go ⟨g, off * sz, none⟩ _ _ h0 h1, ?_⟩
          rw [Addr.add_lit, show off * sz + i.toNat * sz = (off + i.toNat) * sz + 0 by rw [Nat.add_mul]; omega]
          exact .eptr hp
        | row0 => omega
      · exact h.elim
    · exact h.elim
  · exact h.elim

/-! ### Lengths -/
theorem lenK_sound {t : TypeId} {p : AV} {x : Value} {K : AV → Prop} {ty : TypeId} {ts : Array TypeId} (h : lenK P t F p K) (hts : ts[0]? = some t) (hx : ARep w β ok p x) (hm : Mem w β ok σ) (hF : ∀ n c, F n = some c → look n σ = some c) :
    ∃ v r, K v ∧ (Builtin.len_ ts ty #[x]).run P w = .ok r w ∧ ARep w β ok v r := by
  unfold lenK at h
  have fin : ∀ (A : Option Addr) (n c : Nat) (e : TypeId), P.underlying t = some (.slice e) → x = .slice A n c → K (.i .i64 n) → ∃ v r, K v ∧ (Builtin.len_ ts ty #[x]).run P w = .ok r w ∧ ARep w β ok v r := by
    intro A n c e hu hx hK
    subst hx
    exact ⟨_, _, hK, by simp [Builtin.len_, hts, run_underlying hu, goInt], .p (.i _ _)⟩
  split at h
  · rename_i xs e hu
    obtain ⟨A, c, hxe, _⟩ := rep_sl hx
    exact fin A _ c e hu hxe h
  · rename_i e hu
    exact fin none 0 0 e hu (rep_nil hx) h
  · rename_i s hu
    have := rep_str hx
    subst this
    exact ⟨_, _, h, by simp [Builtin.len_, hts, run_underlying hu, goInt], .p (.i _ _)⟩
  · rename_i n e hu
    split at h
    · rename_i e0 sz xs hFn
      cases hm.blks n _ (hF n _ hFn) with
      | @row _ _ _ v0 cells hb0 ho hr =>
        cases hx with
        | p hp => cases hp
        | @own _ A l c hp =>
          rw [hp] at hb0
          simp only [Option.some.injEq] at hb0
          subst hb0
          have := own_len ho
          exact fin A l c e hu rfl (by rw [this.1]; exact h)
    · exact h.elim
  · rename_i n sz off len e hu
    cases hx with
    | p hp => cases hp
    | row hp hc hll hin ha => exact fin _ _ _ e hu rfl h
    | row0 => exact fin _ _ _ e hu rfl h
  · exact h.elim

/-! ### Cuts -/
def OptRep (w : World) (β : Beta) (ok : Nat → Prop) : Option AV → Option Value → Prop
  | none, none => True
  | some p, some x => ARep w β ok p x
  | _, _ => False

theorem boundK_sound {lo hi : Option AV} {len cap : Nat} {K : Nat → Nat → Prop} {lv hv : Option Value} {isS : Bool} (h : boundK lo hi len K) (hlc : len ≤ cap)
    (hl : OptRep w β ok lo lv)
    (hh : OptRep w β ok hi hv) :
    ∃ l h', K l h' ∧ l ≤ h' ∧ h' ≤ len ∧ (Instr.sliceBounds isS len cap lv hv none).run P w = .ok (l, h', cap) w := by
  unfold boundK at h
  split at h
  · cases lv with
    | some x => exact hl.elim
    | none =>
      cases hv with
      | some x => exact hh.elim
      | none => exact ⟨0, len, h, by omega, by omega, by simp [Instr.sliceBounds]⟩
  · rename_i k l
    cases lv with
    | none => exact hl.elim
    | some x =>
      have := rep_int hl
      subst this
      cases hv with
      | some x => exact hh.elim
      | none => exact ⟨_, _, h.2.2, by omega, by omega, by simp [Instr.sliceBounds, Instr.sliceBound, asIntOf, h.1, h.2.1]⟩
  · rename_i k l
    cases lv with
    | some x => exact hl.elim
    | none =>
      cases hv with
      | none => exact hh.elim
      | some x =>
        have := rep_int hh
        subst this
        exact ⟨_, _, h.2.2, by omega, by omega, by simp [Instr.sliceBounds, Instr.sliceBound, asIntOf, h.1, show l ≤ (cap : Int) by omega]⟩
  · rename_i k l k' l'
    cases lv with
    | none => exact hl.elim
    | some x =>
      have := rep_int hl
      subst this
      cases hv with
      | none => exact hh.elim
      | some x =>
        have := rep_int hh
        subst this
        obtain ⟨c1, c2, c3, hK⟩ := h
        obtain ⟨n, rfl⟩ := Int.eq_ofNat_of_zero_le (show 0 ≤ l' by omega)
        obtain ⟨m, rfl⟩ := Int.eq_ofNat_of_zero_le c1
        exact ⟨_, _, hK, by omega, by omega, by simp [Instr.sliceBounds, Instr.sliceBound, asIntOf, show m ≤ n by omega, show n ≤ cap by omega]⟩
  · exact h.elim

theorem sl_cut {xs : List (List AV)} {A : Option Addr} {c sz : Nat} {l h : Nat} (hx : PRep w ok (.sl xs) (.slice A xs.length c)) (hlh : l ≤ h) (hh : h ≤ xs.length) (hsz : ∀ x ∈ xs, x.length = sz) :
    PRep w ok (.sl ((xs.take h).drop l)) (.slice (if c = l then A else A.map (·.add (l * sz))) (h - l) (c - l)) := by
  cases hx with
  | sl sz' g hc hni hw had h1 hr =>
    have hlen : ((xs.take h).drop l).length = h - l := by simp; omega
    have hget : ∀ j x, ((xs.take h).drop l)[j]? = some x → xs[l + j]? = some x ∧ l + j < h := by
      intro j x hj
      rw [List.getElem?_drop, List.getElem?_take] at hj
      split at hj
      · exact ⟨hj, by omega⟩
      · simp at hj
    by_cases h0 : h - l = 0
    · have hnil : (xs.take h).drop l = [] := List.eq_nil_of_length_eq_zero (by omega)
      rw [hnil, h0]
      refine .sl 0 (fun _ => undef) (by simp) (fun e => ?_) (by simp) (by simp) (by simp) (by simp)
      have : A = none := by
        split at e
        · exact e
        · simpa using e
      have := hni this
      omega
    · have hsz' : sz' = sz := by
        have hx0 : xs[0]? = some xs[0] := List.getElem?_eq_getElem (by omega)
        rw [← hw 0 _ hx0]
        exact hsz _ (List.getElem_mem _)
      subst hsz'
      obtain ⟨ad, rfl, hok, hcell⟩ := had (by omega)
      rw [if_neg (by omega), ← hlen]
      have hin : ∀ t, t < ((xs.take h).drop l).length * sz' → l * sz' + t < xs.length * sz' := by
        intro t ht
        rw [hlen, Nat.sub_mul] at ht
        have : h * sz' ≤ xs.length * sz' := Nat.mul_le_mul_right _ hh
        omega
      refine .sl sz' (fun t => g (l * sz' + t)) (by omega) (fun e => by simp at e) (fun j x hj => hw _ x (hget j x hj).1) (fun _ => ⟨ad.add (l * sz'), rfl, by rw [block_add]; exact hok, fun t ht => ?_⟩) (fun t ht => h1 _ (hin t ht)) (fun j x t y hj hy => ?_)
      · rw [add_add]; exact hcell _ (hin t ht)
      · have := hr _ x t y (hget j x hj).1 hy
        rw [Nat.add_mul] at this
        rw [show l * sz' + (j * sz' + t) = l * sz' + j * sz' + t by omega]
        exact this

theorem slice_of {t e : TypeId} {sz l h len cap : Nat} {A : Option Addr} {lv hv : Option Value} (hu : P.underlying t = some (.slice e)) (hsz : sizeT P e = some sz)
    (hb : (Instr.sliceBounds true len cap lv hv none).run P w = .ok (l, h, cap) w) :
    (Instr.sliceAt t (.slice A len cap) lv hv none).run P w = .ok (.slice (if cap = l then A else A.map (·.add (l * sz))) (h - l) (cap - l)) w := by
  simp [Instr.sliceAt, Instr.slice, run_underlying hu, hb, run_sizeOf w hsz]

theorem sliceK_sound {t : TypeId} {p : AV} {lo hi : Option AV} {lv hv : Option Value} {x : Value} {K : AV → Prop} (h : sliceK P t F p lo hi K) (hx : ARep w β ok p x)
    (hl : OptRep w β ok lo lv)
    (hh : OptRep w β ok hi hv) (hm : Mem w β ok σ) (hF : ∀ n c, F n = some c → look n σ = some c) :
    ∃ v r, K v ∧ (Instr.sliceAt t x lv hv none).run P w = .ok r w ∧ ARep w β ok v r := by
  unfold sliceK at h
  split at h
  · rename_i s hu
    have := rep_str hx
    subst this
    obtain ⟨l, h', hK, h1, h2, hb⟩ := boundK_sound (P := P) (w := w) (isS := false) h (Nat.le_refl _) hl hh
    exact ⟨_, _, hK, by simp [Instr.sliceAt, Instr.slice, run_underlying hu, hb], .p (.s _)⟩
  · rename_i xs e hu
    split at h
    · rename_i sz hsz
      obtain ⟨A, c, rfl, hc, hp⟩ := rep_sl hx
      obtain ⟨l, h', ⟨hw, hK⟩, h1, h2, hb⟩ := boundK_sound (P := P) (w := w) (isS := true) h hc hl hh
      exact ⟨_, _, hK, slice_of hu hsz hb, .p (sl_cut hp h1 h2 hw)⟩
    · exact h.elim
  · rename_i n e hu
    split at h
    · rename_i e0 sz xs sz' hFn hsz
      obtain ⟨hb, h'⟩ := bif_elim h
      have hb' := beq_nat hb
      subst hb'
      cases hm.blks n _ (hF n _ hFn) with
      | @row _ _ _ v0 cells hb0 ho hr =>
        cases hx with
        | p hp => cases hp
        | @own _ A l0 c hp =>
          rw [hp] at hb0
          simp only [Option.some.injEq] at hb0
          subst hb0
          obtain ⟨e1, e2⟩ := own_len ho
          subst e1
          obtain ⟨l, h'', hK, h1, h2, hbb⟩ := boundK_sound (P := P) (w := w) (isS := true) h' e2 hl hh
          refine ⟨_, _, hK, slice_of hu hsz hbb, ?_⟩
          rcases ho.2 with ⟨e1, e2⟩ | ⟨g, cap, cur, e1, _⟩
          · simp only [Value.slice.injEq] at e1
            obtain ⟨rfl, e3, rfl⟩ := e1
            have hl0 : l = 0 := by omega
            have hh0 : h'' = 0 := by omega
            subst hl0
            subst hh0
            exact .row0
          · simp only [Value.slice.injEq] at e1
            obtain ⟨rfl, _, rfl⟩ := e1
            refine .row hp (by omega) (by omega) (by omega) (fun hc' => ?_)
            rw [if_neg (by omega)]
            simp [Addr.add_lit]
    · exact h.elim
  · rename_i n sz off len e hu
    split at h
    · rename_i sz' hsz
      obtain ⟨hb, h'⟩ := bif_elim h
      have hb' := beq_nat hb
      subst hb'
      cases hx with
      | p hp => cases hp
      | @row _ _ _ _ g l0 c c' A hp hc hll hin ha =>
        obtain ⟨l, h'', hK, h1, h2, hbb⟩ := boundK_sound (P := P) (w := w) (isS := true) h' hc hl hh
        refine ⟨_, _, hK, slice_of hu hsz hbb, .row hp (by omega) (by omega) (by omega) (fun hc' => ?_)⟩
        rw [if_neg (by omega), ha (by omega)]
        simp [Addr.add_lit, Nat.add_mul]
      | row0 =>
        obtain ⟨l, h'', hK, h1, h2, hbb⟩ := boundK_sound (P := P) (w := w) (isS := true) h' (Nat.le_refl _) hl hh
        have hl0 : l = 0 := by omega
        have hh0 : h'' = 0 := by omega
        subst hl0
        subst hh0
        exact ⟨_, _, hK, slice_of hu hsz hbb, .row0⟩
    · exact h.elim
  · exact h.elim
end
end Go.AM
