/- Rows whose spare places are seen, copies, clearing, comparisons with nil: each operation's formula is sound, and its result can be named. -/
import Derived.Test.YthcpekjcnokonaaAm25
set_option linter.unusedVariables false
set_option linter.unusedSimpArgs false
namespace Go.AM
open Go.RowKit

section
variable {P : Program} {o : Oper} {a : Act} {w : World} {β : Beta} {ok : Nat → Prop} {σ : Heap} {nm : Nat} {ρ : Env} {F : Nat → Option Blk}

theorem sizeT_info {e : TypeId} {sz : Nat} {z : List AV} {zv : Value} {i : TypeInfo} (h : sizeT P e = some sz) (hi : P.info? e = some i) : i.size = sz := by
  unfold sizeT at h
  rw [hi] at h
  simpa using h

theorem zc_facts {e : TypeId} {z : List AV} {i : TypeInfo} (h : zeroCells P e = some z) (hi : P.info? e = some i) : ∃ zv, i.zero = some zv ∧ z.length = zv.cells.size ∧
    (∀ (w : World) (ok : Nat → Prop) (j : Nat) (y : AV) (x : Value), z[j]? = some y → zv.cells[j]? = some x → PRep w ok y x ∧ x.oneCell' = true) ∧ ∀ u ∈ zv.cells.toList, u.oneCell' = true := by
  obtain ⟨i', zv, g1, g2, g3, g4⟩ := zeroCells_rep h
  rw [hi] at g1
  injection g1 with g1
  subst g1
  refine ⟨zv, g2, g3, g4, fun u hu => ?_⟩
  obtain ⟨j, hj⟩ := List.mem_iff_getElem?.1 hu
  have hj' : zv.cells[j]? = some u := by simpa using hj
  have hjl : j < z.length := by rw [g3]; exact (Array.getElem?_eq_some_iff.1 hj').1
  exact (g4 default (fun _ => True) j z[j] u (by simp [hjl]) hj').2

theorem newsK_src {z : List AV} {b : Bool} {x : AV} {xv : Value} {K : List (List AV) → Prop} {e t' : TypeId} {i : TypeInfo} (h : newsK F z b x K) (hx : ARep w β ok x xv) (hm : Mem w β ok σ) (hF : ∀ n c, F n = some c → look n σ = some c)
    (hz : zeroCells P e = some z) (hi : P.info? e = some i) (hb : isInt P t' = b) (hzl : z.length = i.size) :
    ∃ ys, K ys ∧ ((∀ y ∈ ys, y.length = i.size) → ∃ news : List Value, news.length = ys.length * i.size ∧ (∀ u ∈ news, u.oneCell' = true) ∧ RowRep w ok i.size ys news ∧
      ((b = false ∧ ∃ A c, xv = .slice A ys.length c ∧ (0 < ys.length → ∃ ad, A = some ad ∧ ∀ (j : Nat) (u : Value), news[j]? = some u → w.cell? (ad.add j) = some u)) ∨
        (b = true ∧ xv = .int .i64 ys.length ∧ ys.length ≤ 140737488355328 ∧ ∃ zv, i.zero = some zv ∧ zv.cells.size = i.size ∧ news = (Builtin.zeroCells zv.cells ys.length).toList))) := by
  unfold newsK at h
  cases b with
  | true =>
    simp only at h
    split at h
    · rename_i k
      obtain ⟨h0, h1, hK⟩ := h
      refine ⟨_, hK, fun _ => ?_⟩
      obtain ⟨zv, z1, z2, z3, z4⟩ := zc_facts hz hi
      obtain ⟨n, rfl⟩ := Int.eq_ofNat_of_zero_le h0
      have hzs : zv.cells.size = i.size := by omega
      refine ⟨(Builtin.zeroCells zv.cells n).toList, by simp [size_zeroCells, hzs], fun u hu => ?_, by simpa using replicate_row z2 hzs (z3 w ok), .inr ⟨rfl, by simpa using rep_int hx, by simp; omega, zv, z1, hzs, by simp⟩⟩
      obtain ⟨j, hj⟩ := List.mem_iff_getElem?.1 hu
      simp only [Builtin.zeroCells, Array.getElem?_toList, Array.getElem?_map] at hj
      obtain ⟨q, hq, e⟩ := Option.map_eq_some_iff.1 hj
      have hq' := (Array.getElem?_eq_some_iff.1 hq).1
      simp only [Array.size_range] at hq'
      have hp : 0 < zv.cells.size := by
        rcases Nat.eq_zero_or_pos zv.cells.size with h | h
        · rw [h] at hq'; omega
        · exact h
      rw [← e, getElem!_pos zv.cells _ (Nat.mod_lt _ hp)]
      exact z4 _ (by simp)
    · exact h.elim
  | false =>
    simp only at h
    obtain ⟨ys, hK, hs⟩ := elemsK_src h hx hm hF
    refine ⟨ys, hK, fun hy => ?_⟩
    obtain ⟨A, c, news, h1, h2, h3, h4, h5⟩ := hs i.size hy
    exact ⟨news, h2, h4, h5, .inl ⟨rfl, A, c, h1, h3⟩⟩

/-- What is appended is there. -/
theorem run_append_in {t t' ty e len cap g off : Nat} {i : TypeInfo} {A : Option Addr} {xv : Value} {ys : List (List AV)} {news : List Value} {cur : Array Value} {b : Bool} (hu : P.underlying t = some (.slice e)) (hi : P.info? e = some i)
    (hb : isInt P t' = b) (hbt : b = false → t' = t) (hnl : news.length = ys.length * i.size) (h1 : ∀ u ∈ news, u.oneCell' = true) (hsz : 0 < i.size)
    (hsrc : (b = false ∧ ∃ A c, xv = .slice A ys.length c ∧ (0 < ys.length → ∃ ad, A = some ad ∧ ∀ (j : Nat) (u : Value), news[j]? = some u → w.cell? (ad.add j) = some u)) ∨
        (b = true ∧ xv = .int .i64 ys.length ∧ ys.length ≤ 140737488355328 ∧ ∃ zv, i.zero = some zv ∧ zv.cells.size = i.size ∧ news = (Builtin.zeroCells zv.cells ys.length).toList))
    (hbytes : b = true → ys.length * i.bytes ≤ 140737488355328)
    (hA : 0 < cap → A = some ⟨g, off * i.size, none⟩) (hh : w.heap[g]? = some (.cells cur e (0, 0))) (hroom : len + ys.length ≤ cap) (hfit : (off + len) * i.size + news.length ≤ cur.size) :
    (Builtin.append_ #[t, t'] ty #[.slice A len cap, xv]).run P w = .ok (.slice A (len + ys.length) cap) (w.setRow g (splice cur.toList ((off + len) * i.size) news).toArray) := by
  have hst := run_storeCells_at P g ((off + len) * i.size) e news 0 cur w hh (by simpa using hfit) h1
  simp only [Nat.add_zero] at hst
  have hnil : ys.length = 0 → news = [] := fun h => List.eq_nil_of_length_eq_zero (by rw [hnl, h]; simp)
  have hself : news = [] → w.setRow g (splice cur.toList ((off + len) * i.size) news).toArray = w := by
    intro h
    subst h
    have e1 : splice cur.toList ((off + len) * i.size) [] = cur.toList := by simp [splice]
    rw [e1, Array.toArray_toList, setRow_self w g cur e (0, 0) hh]
  rcases hsrc with ⟨rfl, A', c, rfl, hc⟩ | ⟨rfl, rfl, hk, zv, z1, z2, z3⟩
  · have := hbt rfl
    subst this
    have hf := run_first (P := P) (w := w) (c := c) hnl hc (Nat.le_refl _)
    rw [List.take_of_length_le (by omega)] at hf
    by_cases h0 : ys.length = 0
    · have hn := hnil h0
      rw [hself hn]
      subst hn
      rw [h0] at hf ⊢
      cases A <;> simp [Builtin.append_, run_underlying hu, Go.sizeOf, typeInfo, hi, Builtin.lenOf, hf, storeCells, show len ≤ cap by omega]
    · rw [hA (by omega)]
      simp [Builtin.append_, run_underlying hu, Go.sizeOf, typeInfo, hi, Builtin.lenOf, hf, hroom, Addr.add_lit, ← Nat.add_mul, hst, splice]
  · have hint : ∃ k, P.underlying t' = some (.int k) := by
      unfold isInt at hb
      split at hb
      · exact ⟨_, by assumption⟩
      · simp at hb
    obtain ⟨k, hint⟩ := hint
    have hw : IntKind.i64.wrap (ys.length : Int) = ys.length := by rw [IntKind.wrap_i64]; omega
    have hb48 : ¬ ((281474976710656 : Int) < (ys.length : Int) * (i.bytes : Int)) := by
      have := hbytes rfl
      rw [← Int.natCast_mul]
      omega
    have hneg : ¬ ((ys.length : Int) < 0) := by omega
    by_cases h0 : ys.length = 0
    · have hn := hnil h0
      rw [hself hn]
      have hw0 : IntKind.i64.wrap 0 = 0 := by rw [IntKind.wrap_i64]; omega
      rw [h0]
      cases A <;> simp [Builtin.append_, run_underlying hu, run_underlying hint, Go.sizeOf, typeInfo, hi, hw0, storeCells, show len ≤ cap by omega, asInt, asIntOf]
    · rw [hA (by omega)]
      have hne : ¬ (ys.length * i.size = 0) := by
        rw [Nat.mul_eq_zero]; omega
      simp [Builtin.append_, run_underlying hu, run_underlying hint, Go.sizeOf, typeInfo, hi, hw, hb48, hneg, hne, hroom, Addr.add_lit, ← Nat.add_mul, zeroValue, z1, ← z3, hst, splice, asInt, asIntOf]

/-- What is appended is not there: a new row. -/
theorem run_append_out {t t' ty e len cap g off : Nat} {i : TypeInfo} {z : Value} {A : Option Addr} {xv : Value} {ys : List (List AV)} {olds news : List Value} {b : Bool} (hu : P.underlying t = some (.slice e)) (hi : P.info? e = some i) (hz : i.zero = some z) (hzs : z.cells.size = i.size)
    (hb : isInt P t' = b) (hbt : b = false → t' = t) (hnl : news.length = ys.length * i.size) (hsz : 0 < i.size)
    (hsrc : (b = false ∧ ∃ A c, xv = .slice A ys.length c ∧ (0 < ys.length → ∃ ad, A = some ad ∧ ∀ (j : Nat) (u : Value), news[j]? = some u → w.cell? (ad.add j) = some u)) ∨
        (b = true ∧ xv = .int .i64 ys.length ∧ ys.length ≤ 140737488355328 ∧ ∃ zv, i.zero = some zv ∧ zv.cells.size = i.size ∧ news = (Builtin.zeroCells zv.cells ys.length).toList))
    (hbytes : ys.length * i.bytes ≤ 140737488355328) (hbytes2 : (len + ys.length) * i.bytes ≤ 140737488355328) (h63 : len + ys.length ≤ 9223372036854775807)
    (hA : 0 < cap → A = some ⟨g, off * i.size, none⟩) (hlc : len ≤ cap) (hol : olds.length = len * i.size) (hoc : ∀ (j : Nat) (u : Value), olds[j]? = some u → w.cell? ⟨g, off * i.size + j, none⟩ = some u) (hroom : cap < len + ys.length) :
    ∃ (c' : Nat) (arr : Array Value), (Builtin.append_ #[t, t'] ty #[.slice A len cap, xv]).run P w = .ok (.slice (some ⟨w.heap.size, 0, none⟩) (len + ys.length) c') (w.drew.alloc (.cells arr e)) ∧
      (w.drew.alloc (.cells arr e)).ownsRow 0 e i.size (.slice (some ⟨w.heap.size, 0, none⟩) (len + ys.length) c') (len + ys.length) (olds ++ news) := by
  have hlen : (olds ++ news).length = (len + ys.length) * i.size := by rw [List.length_append, hol, hnl, Nat.add_mul]
  have own : ∀ (zr : Array Value), zr.size = (grownCap w (len + ys.length) cap e - (len + ys.length)) * i.size →
      (w.drew.alloc (.cells (olds.toArray ++ news.toArray ++ zr) e)).ownsRow 0 e i.size (.slice (some ⟨w.heap.size, 0, none⟩) (len + ys.length) (grownCap w (len + ys.length) cap e)) (len + ys.length) (olds ++ news) := by
    intro zr hzr
    have hge := grownCap_ge w (len + ys.length) cap e
    have hcm : grownCap w (len + ys.length) cap e ≤ maxLen := grownCap_le_maxLen w (len + ys.length) cap e (by unfold maxLen; omega)
    refine ⟨hlen, .inr ⟨w.heap.size, _, _, rfl, Nat.zero_le _, heap_alloc_new w.drew _, hge, hcm, ?_, ?_⟩⟩
    · simp only [Array.size_append, List.size_toArray, hzr, hol, hnl, ← Nat.add_mul]
      congr 1
      omega
    · simp only [Array.toList_append, List.append_assoc]
      rw [← List.append_assoc, ← hlen]
      exact List.take_left
  have hfit : Builtin.nextslicecap (len + ys.length) cap * i.bytes ≤ 281474976710656 := growslice_fits hroom hbytes2
  have h0 : 0 < ys.length := by omega
  have hz1 := own (Builtin.zeroCells z.cells (grownCap w (len + ys.length) cap e - (len + ys.length))) (by rw [size_zeroCells, hzs])
  have hofirst : (Builtin.firstCells i.size len (.slice A len cap)).run P w.drew = .ok olds.toArray w.drew := by
    by_cases hl0 : len = 0
    · have : olds = [] := List.eq_nil_of_length_eq_zero (by rw [hol, hl0]; simp)
      subst this
      subst hl0
      cases A <;> simp [Builtin.firstCells, loadCells, loadCellsFrom]
    · rw [hA (by omega)]
      exact run_firstCells_some (P := P) w.drew i.size len _ len cap olds hol (fun j v hv => by rw [Addr.add_lit]; exact hoc j v hv)
  rcases hsrc with ⟨rfl, A', c, rfl, hc⟩ | ⟨rfl, rfl, hk, zv, z1, z2, z3⟩
  · have := hbt rfl
    subst this
    obtain ⟨ad, rfl, hc'⟩ := hc h0
    refine ⟨_, _, ?_, hz1⟩
    cases A with
    | some b =>
      have hcells : ∀ (j : Nat) (v : Value), olds[j]? = some v → w.cell? (b.add j) = some v := by
        intro j v hv
        have hjl := (List.getElem?_eq_some_iff.1 hv).1
        have hcap : 0 < cap := by
          rcases Nat.eq_zero_or_pos cap with e | e
          · rw [hol, show len = 0 by omega] at hjl; omega
          · exact e
        have := hA hcap
        injection this with this
        subst this
        rw [Addr.add_lit]
        exact hoc j v hv
      exact run_append_grow (P := P) w _ ty e i z hu hi hz b len cap olds hol hcells ad ys.length c news hnl hc' hroom (by omega) hfit
    | none =>
      have hc0 : cap = 0 := by
        rcases Nat.eq_zero_or_pos cap with e | e
        · exact e
        · have := hA e; simp at this
      subst hc0
      have hl0 : len = 0 := by omega
      subst hl0
      have : olds = [] := List.eq_nil_of_length_eq_zero (by rw [hol]; simp)
      subst this
      have := run_append_nil (P := P) w t' ty e i z hu hi hz ad ys.length c news hnl hc' h0 (by omega) (by omega)
      simpa using this
  · have hint : ∃ k, P.underlying t' = some (.int k) := by
      unfold isInt at hb
      split at hb
      · exact ⟨_, by assumption⟩
      · simp at hb
    obtain ⟨k, hint⟩ := hint
    have hzz : zv = z := by rw [hz] at z1; exact (Option.some.inj z1).symm
    subst hzz
    have := Lib.run_append_grow_zeros (P := P) w t t' ty e i zv .i64 k hu hint hi hz A len cap olds hofirst ys.length h0 hsz hroom (by omega) (by omega) hfit
    refine ⟨_, _, this, ?_⟩
    have h2 := hz1
    rw [z3] at h2 ⊢
    rw [Array.toArray_toList] at h2
    exact h2

theorem appendFK_sound {t t' ty n sz off len cap : Nat} {b : Bool} {x : AV} {sv xv : Value} {K : AV → Upd → Prop} (h : appendFK P nm t b F n sz off len cap x K) (hb : isInt P t' = b) (hbt : b = false → t' = t) (hs : ARep w β ok (.fv n sz off len cap) sv) (hx : ARep w β ok x xv)
    (hm : Mem w β ok σ) (hF : ∀ n c, F n = some c → look n σ = some c) (hn : β[nm]? = some none) : ∃ v u r w' β', K v u ∧ (Builtin.append_ #[t, t'] ty #[sv, xv]).run P w = .ok r w' ∧ ARep w' β' ok v r ∧ OpOK w β ok σ nm w' β' ok u := by
  unfold appendFK at h
  split at h
  · rename_i e he
    split at h
    · rename_i i z e' sz' xs hi hz hFn
      obtain ⟨hbb, h'⟩ := bif_elim h
      clear h
      simp only [Bool.and_eq_true] at hbb
      obtain ⟨b1, b2, b3, b4, b5⟩ := hbb
      have b1 := beq_nat b1
      have b2 := beq_nat b2
      have b3 := beq_nat b3
      have b4 := beq_nat b4
      have b5 : 0 < i.size := Nat.le_of_ble_eq_true b5
      subst b1
      subst b2
      subst b3
      obtain ⟨zv, z1, z2, z3, z4⟩ := zc_facts hz hi
      obtain ⟨ys, ⟨hyl, hint, hK⟩, hsrc⟩ := newsK_src (t' := t') h' hx hm hF hz hi hb b4
      obtain ⟨news, hnl, h1, hrr, hsrc⟩ := hsrc hyl
      have ht := elemT_eq he
      have hlk := hF n _ hFn
      obtain ⟨A, g, l, c, rfl, hbt', f1, f2, f3⟩ := rep_fv hs
      obtain ⟨rfl, hmx, cur, hh, hcs, hr⟩ := blk_full (hm.blks n _ hlk) hbt'
      rcases brP_elim hK with ⟨d1, hK⟩ | ⟨d1, c1, c2, c3, c4, hK⟩
      · have hroom := of_decide_eq_true d1
        have hfit : (off + len) * i.size + news.length ≤ cur.size := by
          rw [hnl, hcs, ← Nat.add_mul]; exact Nat.mul_le_mul_right _ (by omega)
        have hrun := run_append_in (P := P) (w := w) (ty := ty) (len := len) (cap := cap) (A := A) ht hi hb hbt hnl h1 b5 hsrc (fun hbt => by subst hbt; exact hint) f3 hh hroom hfit
        refine ⟨_, _, _, _, _, hK, hrun, .fv hbt' (by omega) (by omega) f3, put_full hm hlk hbt' hmx hh hcs hr hnl hrr (by omega)⟩
      · have hroom : cap < len + ys.length := by
          have := of_decide_eq_false d1; omega
        obtain ⟨p1, p2, p3, p4⟩ := full_part (len := len) (off := off) hcs hr (by omega) c4
        obtain ⟨c', arr, r1, r2⟩ := run_append_out (P := P) (w := w) (ty := ty) (len := len) (cap := cap) (A := A) (g := g) (off := off) ht hi z1 (by omega) hb hbt hnl b5 hsrc c1 c2 c3 f3 f1 p1 (fun j u hu => by
          simp [World.cell?, hh, p2 j u hu]) hroom
        have hfr : Fr (fun _ => False) w (w.drew.alloc (.cells arr e)) := ⟨rfl, rfl, rfl, by simp, fun g hg _ => Below.heap_alloc w.drew _ g hg⟩
        have hset := get_set (.slice (some ⟨w.heap.size, 0, none⟩) (len + ys.length) c') hn
        have hrow : RowRep w ok i.size ((xs.drop off).take len ++ ys) _ := RowRep.append p4 (by rw [p1]; congr 1; simp; omega) hrr
        have hlen : ((xs.drop off).take len ++ ys).length = len + ys.length := by simp; omega
        refine ⟨_, _, _, _, _, hK, r1, .own hset, OpOK.new hm hn hfr (fun g hg => ?_) (.row hset (by rw [hlen]; exact r2) (hrow.mono (fun g hg => hfr.block g (hm.oklt g hg) id)))⟩
        simp only [bk, Option.some.injEq] at hg
        omega
    · exact h.elim
  · exact h.elim

theorem copyK_sound {t sT ty : Nat} {d s : AV} {dv sv : Value} {K : AV → Upd → Prop} (h : copyK P t F d s K) (hd : ARep w β ok d dv) (hs : ARep w β ok s sv) (hm : Mem w β ok σ) (hF : ∀ n c, F n = some c → look n σ = some c) :
    ∃ v u r w', K v u ∧ (Builtin.copy_ #[t, sT] ty #[dv, sv]).run P w = .ok r w' ∧ ARep w' β ok v r ∧ OpOK w β ok σ nm w' β ok u := by
  unfold copyK at h
  split at h
  · rename_i e hu
    split at h
    · rename_i sz hsz
      have empty : ∀ (L : Nat) (A : Option Addr) (c : Nat) (D : Option Addr) (dc : Nat), (Builtin.copy_ #[t, sT] ty #[.slice D 0 dc, .slice A L c]).run P w = .ok (.int .i64 ((min L 0 : Nat) : Int)) w := by
        intro L A c D dc
        have hi : ∃ i, P.info? e = some i := by
          unfold sizeT at hsz
          obtain ⟨i, h1, h2⟩ := Option.map_eq_some_iff.1 hsz
          exact ⟨i, h1⟩
        obtain ⟨i, hi⟩ := hi
        have hz : Nat.min L 0 = 0 := Nat.min_zero _
        cases A <;> cases D <;> simp [Builtin.copy_, run_underlying hu, Builtin.lenOf, Builtin.firstCells, loadCells, loadCellsFrom, Go.sizeOf, typeInfo, hi, goInt, hz, storeCells]
      split at h
      · rename_i n sz' off len cap
        split at h
        · rename_i e' sz0 xs hFn
          obtain ⟨hb, h'⟩ := bif_elim h
          clear h
          rw [Bool.and_eq_true] at hb
          have b1 := beq_nat hb.1
          have b2 := beq_nat hb.2
          subst b1
          subst b2
          obtain ⟨L, ys, A, c, ⟨hyl, hK⟩, rfl, hyn, hsrc⟩ := firstK_src h' hs hm hF
          obtain ⟨news, hnl, hA, h1, hrr⟩ := hsrc _ hyl
          have hlk := hF n _ hFn
          obtain ⟨D, g, l, c', rfl, hbt', f1, f2, f3⟩ := rep_fv hd
          obtain ⟨rfl, hmx, cur, hh, hcs, hr⟩ := blk_full (hm.blks n _ hlk) hbt'
          have hfit : off * (sz + 1) + news.length ≤ cur.size := by
            rw [hnl, hcs, ← Nat.add_mul]; exact Nat.mul_le_mul_right _ (by omega)
          exact ⟨_, _, _, _, hK, run_copy hu hsz hyn hnl hA h1 (fun h0 => f3 (by omega)) hh hfit, .p (.i _ _), put_full hm hlk hbt' hmx hh hcs hr hnl hrr (by omega)⟩
        · exact h.elim
      · rename_i n
        split at h
        · rename_i e' sz0 xs hFn
          obtain ⟨hb, h'⟩ := bif_elim h
          clear h
          have b2 := beq_nat hb
          subst b2
          obtain ⟨L, ys, A, c, ⟨hyl, hK⟩, rfl, hyn, hsrc⟩ := firstK_src h' hs hm hF
          obtain ⟨news, hnl, hA, h1, hrr⟩ := hsrc _ hyl
          have hlk := hF n _ hFn
          cases hm.blks n _ hlk with
          | @row _ _ _ v0 cells hb0 ho hr =>
            cases hd with
            | p hp => cases hp
            | @own _ A0 l0 c0 hp =>
              rw [hp] at hb0
              simp only [Option.some.injEq] at hb0
              subst hb0
              obtain ⟨e1, e2⟩ := own_len ho
              subst e1
              rcases ho.2 with ⟨e3, e4⟩ | ⟨g, cap, cur, e3, _⟩
              · simp only [Value.slice.injEq] at e3
                obtain ⟨rfl, e5, rfl⟩ := e3
                have hx0 : xs = [] := List.eq_nil_of_length_eq_zero e4
                subst hx0
                have hy0 : ys = [] := List.eq_nil_of_length_eq_zero (by rw [hyn]; simp)
                subst hy0
                refine ⟨_, _, _, w, hK, empty _ _ _ _ _, .p (.i _ _), ?_⟩
                have : splice ([] : List (List AV)) 0 [] = [] := by simp [splice]
                rw [this]
                exact OpOK.put hm hlk ⟨rfl, rfl, rfl, Nat.le_refl _, fun _ _ _ => rfl⟩ (hm.blks n _ hlk)
              · simp only [Value.slice.injEq] at e3
                obtain ⟨rfl, _, rfl⟩ := e3
                obtain ⟨cur, hh, hfit, hput⟩ := put_row (nm := nm) (off := 0) hm hlk hp ho hr hnl hrr (by omega)
                refine ⟨_, _, _, _, hK, run_copy (off := 0) hu hsz hyn hnl hA h1 (fun h0 => by simp) hh (by simpa using hfit), .p (.i _ _), hput⟩
        · exact h.elim
      · rename_i n sz' off len
        split at h
        · rename_i e' sz0 xs hFn
          obtain ⟨hb, h'⟩ := bif_elim h
          clear h
          rw [Bool.and_eq_true] at hb
          have b1 := beq_nat hb.1
          have b2 := beq_nat hb.2
          subst b1
          subst b2
          obtain ⟨L, ys, A, c, ⟨hyl, hK⟩, rfl, hyn, hsrc⟩ := firstK_src h' hs hm hF
          obtain ⟨news, hnl, hA, h1, hrr⟩ := hsrc _ hyl
          have hlk := hF n _ hFn
          cases hm.blks n _ hlk with
          | @row _ _ _ v0 cells hb0 ho hr =>
            cases hd with
            | p hp => cases hp
            | row0 =>
              have hy0 : ys = [] := List.eq_nil_of_length_eq_zero (by rw [hyn]; simp)
              subst hy0
              refine ⟨_, _, _, w, hK, empty _ _ _ _ _, .p (.i _ _), ?_⟩
              have : splice xs off [] = xs := by simp [splice]
              rw [this]
              exact OpOK.put hm hlk ⟨rfl, rfl, rfl, Nat.le_refl _, fun _ _ _ => rfl⟩ (hm.blks n _ hlk)
            | @row _ _ _ _ g l c0 c' A0 hp hc hll hin ha =>
              rw [hp] at hb0
              simp only [Option.some.injEq] at hb0
              subst hb0
              obtain ⟨e1, e2⟩ := own_len ho
              subst e1
              obtain ⟨cur, hh, hfit, hput⟩ := put_row (nm := nm) (off := off) hm hlk hp ho hr hnl hrr (by omega)
              exact ⟨_, _, _, _, hK, run_copy (off := off) hu hsz hyn hnl hA h1 (fun h0 => ha (by omega)) hh hfit, .p (.i _ _), hput⟩
        · exact h.elim
      · exact h.elim
    · exact h.elim
  · exact h.elim

theorem clearK_sound {t ty : Nat} {d : AV} {dv : Value} {K : AV → Upd → Prop} (h : clearK P t F d K) (hd : ARep w β ok d dv) (hm : Mem w β ok σ) (hF : ∀ n c, F n = some c → look n σ = some c) :
    ∃ v u r w', K v u ∧ (Builtin.clear_ #[t] ty #[dv]).run P w = .ok r w' ∧ ARep w' β ok v r ∧ OpOK w β ok σ nm w' β ok u := by
  unfold clearK at h
  split at h
  · rename_i e hu
    split at h
    · rename_i sz z hsz hz
      have hbe := bif_elim h
      clear h
      obtain ⟨hb0, h⟩ := hbe
      have hzl := beq_nat hb0
      split at h
      · rename_i n sz' off len cap
        split at h
        · rename_i e' sz0 xs hFn
          obtain ⟨hb, hK⟩ := bif_elim h
          rw [Bool.and_eq_true] at hb
          have b1 := beq_nat hb.1
          have b2 := beq_nat hb.2
          subst b1
          subst b2
          have hlk := hF n _ hFn
          obtain ⟨i', zv0, hi, _⟩ := zeroCells_rep hz
          obtain ⟨zv, z1, z2, z3, z4⟩ := zc_facts hz hi
          obtain ⟨D, g, l, c, rfl, hbt', f1, f2, f3⟩ := rep_fv hd
          obtain ⟨rfl, hmx, cur, hh, hcs, hr⟩ := blk_full (hm.blks n _ hlk) hbt'
          obtain ⟨news, r1, rfl⟩ := run_clear (P := P) (w := w) (ty := ty) (cap := cap) (off := off) (len := len) (sz := sz + 1) hu hi z1 (by omega) z4 (fun h0 => f3 (by omega)) hh (by rw [hcs, ← Nat.add_mul]; exact Nat.mul_le_mul_right _ (by omega))
          exact ⟨_, _, _, _, hK, r1, .tup rfl (fun j a x h => by simp at h), put_full hm hlk hbt' hmx hh hcs hr (by rw [Array.length_toList, size_zeroCells, List.length_replicate, show zv.cells.size = sz + 1 by omega]) (replicate_row z2 (by omega) (z3 w ok)) (by simp; omega)⟩
        · exact h.elim
      · exact h.elim
    · exact h.elim
  · exact h.elim

theorem optN_sound {op : Option AV} {d : Nat} {K : Nat → Prop} {v : Option Value} (h : optN op d K) (hv : OptRep w β ok op v) :
    ∃ l, K l ∧ ((v = none ∧ op = none ∧ l = d) ∨ ∃ k, v = some (.int k (l : Int)) ∧ op.isSome = true) := by
  unfold optN at h
  split at h
  · cases v with
    | none => exact ⟨_, h, .inl ⟨rfl, rfl, rfl⟩⟩
    | some x => exact hv.elim
  · rename_i k n
    cases v with
    | none => exact hv.elim
    | some x =>
      have := rep_int hv
      subst this
      obtain ⟨m, rfl⟩ := Int.eq_ofNat_of_zero_le h.1
      exact ⟨_, h.2, .inr ⟨k, rfl, rfl⟩⟩
  · exact h.elim

theorem sliceFK_sound {t : TypeId} {p : AV} {lo hi mx : Option AV} {lv hv mv : Option Value} {x : Value} {K : AV → Prop} (h : sliceFK P t p lo hi mx K) (hx : ARep w β ok p x)
    (hl : OptRep w β ok lo lv) (hh : OptRep w β ok hi hv) (hmx : OptRep w β ok mx mv) :
    ∃ v r, K v ∧ (Instr.sliceAt t x lv hv mv).run P w = .ok r w ∧ ARep w β ok v r := by
  unfold sliceFK at h
  split at h
  · rename_i n sz off len cap e hu
    split at h
    · rename_i sz' hsz
      obtain ⟨hb, h'⟩ := bif_elim h
      rw [Bool.and_eq_true] at hb
      have hb' := beq_nat hb.1
      subst hb'
      obtain ⟨l, h1, e1⟩ := optN_sound h' hl
      obtain ⟨u, h2, e2⟩ := optN_sound h1 hh
      obtain ⟨m, h3, e3⟩ := optN_sound h2 hmx
      obtain ⟨c1, c2, c3, hK⟩ := h3
      obtain ⟨A, g, l0, c, rfl, hbt, f1, f2, f3⟩ := rep_fv hx
      have hbd : (Instr.sliceBounds true len cap lv hv mv).run P w = .ok (l, u, m) w := by
        rcases e1 with ⟨rfl, rfl, rfl⟩ | ⟨k1, rfl, _⟩ <;> rcases e2 with ⟨rfl, rfl, rfl⟩ | ⟨k2, rfl, _⟩ <;> rcases e3 with ⟨rfl, rfl, rfl⟩ | ⟨k3, rfl, q3⟩ <;>
          first
          | (simp [Instr.sliceBounds, Instr.sliceBound, asIntOf, c1, c2, c3]; done)
          | (exfalso; have := hb.2; cases mx <;> simp at this q3)
          | (simp [Instr.sliceBounds, Instr.sliceBound, asIntOf, c1, c2, c3, show u ≤ cap by omega])
      refine ⟨_, .slice (if m = l then A else A.map (·.add (l * sz))) (u - l) (m - l), hK, by simp [Instr.sliceAt, Instr.slice, run_underlying hu, hbd, run_sizeOf w hsz], .fv hbt (by omega) (by omega) (fun hc' => ?_)⟩
      rw [if_neg (by omega), f3 (by omega)]
      simp [Addr.add_lit, Nat.add_mul]
    · exact h.elim
  · exact h.elim

theorem eqIn_slice_nil (d : Nat) {t e : TypeId} {A : Option Addr} {l c : Nat} (hu : P.underlying t = some (.slice e)) : (Op.equalIn (d + 1) t (.slice A l c) (.slice none 0 0)).run P w = .ok A.isNone w := by
  cases A <;> simp [Op.equalIn, run_underlying hu]
theorem eqIn_ptr_nil (d : Nat) {t e : TypeId} {A : Option Addr} (hu : P.underlying t = some (.pointer e)) : (Op.equalIn (d + 1) t (.pointer A) (.pointer none)).run P w = .ok A.isNone w := by
  cases A <;> simp [Op.equalIn, run_underlying hu]
theorem eqIn_nil_func (d : Nat) {t : TypeId} {a1 a2 a3} (hu : P.underlying t = some (.func a1 a2 a3)) : (Op.equalIn (d + 1) t .nilFunc .nilFunc).run P w = .ok true w := by
  simp [Op.equalIn, run_underlying hu]
theorem eqIn_func_nil (d : Nat) {t : TypeId} {a1 a2 a3} {f : Fn} {A B : Array Value} (hu : P.underlying t = some (.func a1 a2 a3)) : (Op.equalIn (d + 1) t (.func f A B) .nilFunc).run P w = .ok false w := by
  simp [Op.equalIn, run_underlying hu]
theorem nilA_run {t : TypeId} {a b : AV} {x y : Value} {r : Bool} (h : nilA P t a b = some r) (hx : ARep w β ok a x) (hy : ARep w β ok b y) :
    (binOp .eql t x y).run P w = .ok (.bool r) w ∧ (binOp .neq t x y).run P w = .ok (.bool (!r)) w ∧ ∀ (op : BinOp) (p q : Operand), (eqGuard op t p q x y).run P w = .ok () w := by
  have keyS : ∀ (A : Option Addr) (l c : Nat) (e : TypeId), P.underlying t = some (.slice e) → A.isNone = r → (binOp .eql t (.slice A l c) (.slice none 0 0)).run P w = .ok (.bool r) w ∧ (binOp .neq t (.slice A l c) (.slice none 0 0)).run P w = .ok (.bool (!r)) w ∧
      ∀ (op : BinOp) (p q : Operand), (eqGuard op t p q (.slice A l c) (.slice none 0 0)).run P w = .ok () w := by
    intro A l c e hu hr
    have h5 : (Op.equal t (.slice A l c) (.slice none 0 0)).run P w = .ok r w := by
      subst hr
      exact eqIn_slice_nil 9999 hu
    exact ⟨by simp [binOp, h5], by simp [binOp, h5], fun op p q => by cases op <;> simp [eqGuard]⟩
  have keyP : ∀ (A : Option Addr) (e : TypeId), P.underlying t = some (.pointer e) → A.isNone = r → (binOp .eql t (.pointer A) (.pointer none)).run P w = .ok (.bool r) w ∧ (binOp .neq t (.pointer A) (.pointer none)).run P w = .ok (.bool (!r)) w ∧
      ∀ (op : BinOp) (p q : Operand), (eqGuard op t p q (.pointer A) (.pointer none)).run P w = .ok () w := by
    intro A e hu hr
    have h5 : (Op.equal t (.pointer A) (.pointer none)).run P w = .ok r w := by
      subst hr
      exact eqIn_ptr_nil 9999 hu
    exact ⟨by simp [binOp, h5], by simp [binOp, h5], fun op p q => by cases op <;> simp [eqGuard]⟩
  have keyF : ∀ (x : Value) (a1 a2 : _) (a3 : _), P.underlying t = some (.func a1 a2 a3) → ((x = .nilFunc ∧ r = true) ∨ ∃ f A B, x = .func f A B ∧ r = false) → (binOp .eql t x .nilFunc).run P w = .ok (.bool r) w ∧ (binOp .neq t x .nilFunc).run P w = .ok (.bool (!r)) w ∧
      ∀ (op : BinOp) (p q : Operand), (eqGuard op t p q x .nilFunc).run P w = .ok () w := by
    intro x a1 a2 a3 hu hr
    rcases hr with ⟨rfl, rfl⟩ | ⟨f, A, B, rfl, rfl⟩
    · have h5 : (Op.equal t .nilFunc .nilFunc).run P w = .ok true w := eqIn_nil_func 9999 hu
      exact ⟨by simp [binOp, h5], by simp [binOp, h5], fun op p q => by cases op <;> simp [eqGuard]⟩
    · have h5 : (Op.equal t (.func f A B) .nilFunc).run P w = .ok false w := eqIn_func_nil 9999 hu
      exact ⟨by simp [binOp, h5], by simp [binOp, h5], fun op p q => by cases op <;> simp [eqGuard]⟩
  unfold nilA at h
  split at h
  · rename_i e hu
    have hy' := rep_nil hy
    subst hy'
    have : ∃ A l c, x = .slice A l c ∧ A.isNone = r := by
      cases a with
      | nil => simp [nilS] at h; subst h; exact ⟨_, _, _, rep_nil hx, rfl⟩
      | sle => simp [nilS] at h; subst h; obtain ⟨A, c, rfl⟩ := rep_sle hx; exact ⟨_, _, _, rfl, rfl⟩
      | sl xs =>
        cases xs with
        | nil => simp [nilS] at h
        | cons y ys =>
          simp [nilS] at h
          subst h
          cases hx with
          | p hp =>
            cases hp with
            | sl sz g hc hnil hw had h1 hr =>
              obtain ⟨ad, rfl, _⟩ := had (by simp)
              exact ⟨_, _, _, rfl, rfl⟩
      | _ => simp [nilS] at h
    obtain ⟨A, l, c, rfl, hA⟩ := this
    exact keyS A l c e hu hA
  · rename_i e hu
    have hy' : y = .pointer none := by cases hy with | p hp => cases hp; rfl
    subst hy'
    have : ∃ A, x = .pointer A ∧ A.isNone = r := by
      cases a with
      | np => simp [nilP] at h; subst h; cases hx with | p hp => cases hp; exact ⟨_, rfl, rfl⟩
      | pp cs => simp [nilP] at h; subst h; obtain ⟨ad, rfl, _⟩ := pp_cells hx; exact ⟨_, rfl, rfl⟩
      | ptr n off => simp [nilP] at h; subst h; obtain ⟨g, rfl, _⟩ := rep_ptr hx; exact ⟨_, rfl, rfl⟩
      | eptr n sz j off => simp [nilP] at h; subst h; obtain ⟨g, l, c, rfl, _⟩ := rep_eptr hx; exact ⟨_, rfl, rfl⟩
      | _ => simp [nilP] at h
    obtain ⟨A, rfl, hA⟩ := this
    exact keyP A e hu hA
  · rename_i hu
    have hy' : y = .nilFunc := by cases hy with | p hp => cases hp; rfl
    subst hy'
    have : (x = .nilFunc ∧ r = true) ∨ ∃ f A B, x = .func f A B ∧ r = false := by
      cases a with
      | nf => simp [nilF] at h; subst h; cases hx with | p hp => cases hp; exact .inl ⟨rfl, rfl⟩
      | fn f p q => simp [nilF] at h; subst h; obtain ⟨A, B, rfl, _⟩ := rep_fn hx; exact .inr ⟨_, _, _, rfl, rfl⟩
      | _ => simp [nilF] at h
    exact keyF x _ _ _ hu this
  · simp at h

theorem optRep_map (hr : ∀ x v, ρ x = some v → ARep w β ok v (a.eval x)) {lo : Option Operand} (h : lo.map ρ ≠ some none) : OptRep w β ok (lo.map ρ).join (lo.map a.eval) := by
  cases lo with
  | none => trivial
  | some q =>
    cases hq : ρ q with
    | none => exact absurd (by simp [hq]) h
    | some r => simpa [OptRep, hq] using hr q r hq

theorem opX_sound {K : AV → Upd → Prop} (hs : Sit w β ok σ nm a ρ F) (h : opX P o nm ρ F K) : ∃ v u, K v u ∧ ODone P o a w β ok σ nm v u := by
  have hm := hs.hm
  have hn := hs.hn
  have hF := hs.hF
  unfold opX at h
  split at h
  · rename_i t x lo hi mx ho
    split at h
    · rename_i v hv
      split at h
      · exact h.elim
      · exact h.elim
      · exact h.elim
      · rename_i h1 h2 h3
        obtain ⟨v', r, hK, r1, r2⟩ := sliceFK_sound (P := P) h (hs.hr x v hv) (optRep_map hs.hr h1) (optRep_map hs.hr h2) (optRep_map hs.hr h3)
        exact ⟨_, _, hK, .quiet hm (by simp [execOp, ho, r1]) r2⟩
    · exact h.elim
  · rename_i op t x y ty ho
    split at h
    · rename_i p q hp hq
      unfold nilK at h
      split at h
      · rename_i r hr
        obtain ⟨e1, e2, e3⟩ := nilA_run hr (hs.hr x p hp) (hs.hr y q hq)
        split at h
        · exact ⟨_, _, h, .quiet hm (by simp [execOp, ho, e1, e3]) (.p (.b _))⟩
        · exact ⟨_, _, h, .quiet hm (by simp [execOp, ho, e2, e3]) (.p (.b _))⟩
        · exact h.elim
      · exact h.elim
    · exact h.elim
  · rename_i c ho
    split at h
    · rename_i hcal
      split at h
      · rename_i t x ht hx
        split at h
        · rename_i n sz off len cap e hv hu
          have hargs : c.args = #[x] := by apply Array.ext'; exact hx
          obtain ⟨A, g, l, c', e1, _⟩ := rep_fv (hs.hr x _ hv)
          exact ⟨_, _, h, .quiet hm (by simp [execOp, ho, resolve, hcal, invoke, builtin, hargs, Builtin.cap_, ht, e1, run_underlying hu, goInt]) (.p (.i _ _))⟩
        · exact h.elim
      · exact h.elim
    · rename_i hcal
      split at h
      · rename_i t x ht hx
        have hargs : c.args = #[x] := by apply Array.ext'; exact hx
        split at h
        · rename_i n sz off len cap e hv hu
          obtain ⟨A, g, l, c', e1, _⟩ := rep_fv (hs.hr x _ hv)
          exact ⟨_, _, h, .quiet hm (by simp [execOp, ho, resolve, hcal, invoke, builtin, hargs, Builtin.len_, ht, e1, run_underlying hu, goInt]) (.p (.i _ _))⟩
        · rename_i e hv hu
          obtain ⟨A, c', e1⟩ := rep_sle (hs.hr x _ hv)
          exact ⟨_, _, h, .quiet hm (by simp [execOp, ho, resolve, hcal, invoke, builtin, hargs, Builtin.len_, ht, e1, run_underlying hu, goInt]) (.p (.i _ _))⟩
        · exact h.elim
      · exact h.elim
    · rename_i hcal
      split at h
      · rename_i t t' d s ht hx
        split at h
        · rename_i p q hp hq
          have hargs : c.args = #[d, s] := by apply Array.ext'; exact hx
          have htys : c.argTypes = #[t, t'] := by apply Array.ext'; exact ht
          obtain ⟨v, u, r, w', hK, r1, r2, r3⟩ := copyK_sound (nm := nm) (sT := t') (ty := o.type) h (hs.hr d p hp) (hs.hr s q hq) hm hF
          exact ⟨_, _, hK, _, r, w', β, ok, by simp [execOp, ho, resolve, hcal, invoke, builtin, hargs, htys, r1], .inl rfl, r2, r3⟩
        · exact h.elim
      · exact h.elim
    · rename_i hcal
      split at h
      · rename_i t d ht hx
        split at h
        · rename_i p hp
          have hargs : c.args = #[d] := by apply Array.ext'; exact hx
          have htys : c.argTypes = #[t] := by apply Array.ext'; exact ht
          obtain ⟨v, u, r, w', hK, r1, r2, r3⟩ := clearK_sound (nm := nm) (ty := o.type) h (hs.hr d p hp) hm hF
          exact ⟨_, _, hK, _, r, w', β, ok, by simp [execOp, ho, resolve, hcal, invoke, builtin, hargs, htys, r1], .inl rfl, r2, r3⟩
        · exact h.elim
      · exact h.elim
    · rename_i hcal
      split at h
      · rename_i t t' s x ht hx
        split at h
        · rename_i n sz off len cap q hp hq
          obtain ⟨hb, h'⟩ := bif_elim h
          have hargs : c.args = #[s, x] := by apply Array.ext'; exact hx
          have htys : c.argTypes = #[t, t'] := by apply Array.ext'; exact ht
          obtain ⟨v, u, r, w', β', hK, r1, r2, r3⟩ := appendFK_sound (ty := o.type) h' rfl (fun e => by rw [e] at hb; simp at hb; exact hb.symm) (hs.hr s _ hp) (hs.hr x q hq) hm hF hn
          exact ⟨_, _, hK, _, r, w', β', ok, by simp [execOp, ho, resolve, hcal, invoke, builtin, hargs, htys, r1], .inl rfl, r2, r3⟩
        · exact h.elim
      · exact h.elim
    · exact h.elim
  · exact h.elim

theorem elemsK_pick {x : AV} {K : List (List AV) → Prop} (h : elemsK F x K) : ∃ ys, K ys ∧ elemsK F x (fun ys' => ys' = ys) ∧ ∀ K', K' ys → elemsK F x K' := by
  unfold elemsK at *
  split at h
  · split at h
    · rename_i hFm
      obtain ⟨hb, hu, h⟩ := bif_elim h
      refine ⟨_, h, by simp only [hFm, hb, cond_true]; exact ⟨hu, trivial⟩, fun K' hk => by simp only [hFm, hb, cond_true]; exact ⟨hu, hk⟩⟩
    · exact h.elim
  · exact ⟨_, h, rfl, fun K' hk => hk⟩
  · split at h
    · rename_i he
      exact ⟨_, h, by simp only [he], fun K' hk => by first | exact hk | (simp only [he]; exact hk) | (rw [he]; exact hk)⟩
    · exact h.elim
theorem newsK_pick {z : List AV} {b : Bool} {x : AV} {K : List (List AV) → Prop} (h : newsK F z b x K) : ∃ ys, K ys ∧ ∀ K', K' ys → newsK F z b x K' := by
  unfold newsK at *
  split at h
  · split at h
    · obtain ⟨h0, h1, h⟩ := h
      exact ⟨_, h, fun K' hk => ⟨h0, h1, hk⟩⟩
    · exact h.elim
  · obtain ⟨ys, h1, _, h2⟩ := elemsK_pick h
    exact ⟨ys, h1, h2⟩

theorem appendFK_pick {t n sz off len cap : Nat} {b : Bool} {x : AV} {K : AV → Upd → Prop} (h : appendFK P nm t b F n sz off len cap x K) : ∃ v u, K v u ∧ appendFK P nm t b F n sz off len cap x (fun v' u' => v' = v ∧ u' = u) := by
  unfold appendFK at *
  split at h
  · rename_i he
    split at h
    · rename_i hi hz hFn
      have hbe := bif_elim h
      clear h
      obtain ⟨hb, h⟩ := hbe
      obtain ⟨ys, ⟨c1, c2, h3⟩, h4⟩ := newsK_pick h
      rcases brP_elim h3 with ⟨d1, hK⟩ | ⟨d1, e1, e2, e3, e4, hK⟩
      · refine ⟨_, _, hK, ?_⟩
        simp only [he, hi, hz, hFn, hb, cond_true]
        exact h4 _ ⟨c1, c2, by rw [d1]; exact ⟨by first | rfl | trivial, by first | rfl | trivial⟩⟩
      · refine ⟨_, _, hK, ?_⟩
        simp only [he, hi, hz, hFn, hb, cond_true]
        exact h4 _ ⟨c1, c2, by rw [d1]; exact ⟨e1, e2, e3, e4, by first | rfl | trivial, by first | rfl | trivial⟩⟩
    · exact h.elim
  · exact h.elim

theorem firstK_pick {x : AV} {m : Nat} {K : Nat → List (List AV) → Prop} (h : firstK F x m K) : ∃ L ys, K L ys ∧ ∀ K', K' L ys → firstK F x m K' := by
  unfold firstK at *
  split at h
  · split at h
    · rename_i hFm
      obtain ⟨hb, hu, h⟩ := bif_elim h
      refine ⟨_, _, h, fun K' hk => by simp only [hFm, hb, cond_true]; exact ⟨hu, hk⟩⟩
    · exact h.elim
  · split at h
    · rename_i he
      exact ⟨_, _, h, fun K' hk => by first | exact hk | (simp only [he]; exact hk) | (rw [he]; exact hk)⟩
    · exact h.elim
theorem copyK_pick {t : Nat} {d s : AV} {K : AV → Upd → Prop} (h : copyK P t F d s K) : ∃ v u, K v u ∧ copyK P t F d s (fun v' u' => v' = v ∧ u' = u) := by
  unfold copyK at *
  split at h
  · rename_i hu
    split at h
    · rename_i hsz
      split at h
      · split at h
        · rename_i hFn
          have hbe := bif_elim h
          clear h
          obtain ⟨hb, h⟩ := hbe
          obtain ⟨L, ys, ⟨c1, hK⟩, h4⟩ := firstK_pick h
          refine ⟨_, _, hK, ?_⟩
          simp only [hu, hsz, hFn, hb, cond_true]
          exact h4 _ ⟨c1, rfl, rfl⟩
        · exact h.elim
      · split at h
        · rename_i hFn
          have hbe := bif_elim h
          clear h
          obtain ⟨hb, h⟩ := hbe
          obtain ⟨L, ys, ⟨c1, hK⟩, h4⟩ := firstK_pick h
          refine ⟨_, _, hK, ?_⟩
          simp only [hu, hsz, hFn, hb, cond_true]
          exact h4 _ ⟨c1, rfl, rfl⟩
        · exact h.elim
      · split at h
        · rename_i hFn
          have hbe := bif_elim h
          clear h
          obtain ⟨hb, h⟩ := hbe
          obtain ⟨L, ys, ⟨c1, hK⟩, h4⟩ := firstK_pick h
          refine ⟨_, _, hK, ?_⟩
          simp only [hu, hsz, hFn, hb, cond_true]
          exact h4 _ ⟨c1, rfl, rfl⟩
        · exact h.elim
      · exact h.elim
    · exact h.elim
  · exact h.elim

theorem clearK_pick {t : Nat} {d : AV} {K : AV → Upd → Prop} (h : clearK P t F d K) : ∃ v u, K v u ∧ clearK P t F d (fun v' u' => v' = v ∧ u' = u) := by
  unfold clearK at *
  split at h
  · split at h
    · obtain ⟨hb, h⟩ := bif_elim h
      split at h
      · split at h
        · obtain ⟨hb2, h⟩ := bif_elim h
          exact ⟨_, _, h, by simp only [*, cond_true]; exact ⟨trivial, trivial⟩⟩
        · exact h.elim
      · exact h.elim
    · exact h.elim
  · exact h.elim

theorem optN_pick {op : Option AV} {d : Nat} {K : Nat → Prop} (h : optN op d K) : ∃ l, K l ∧ ∀ K', K' l → optN op d K' := by
  unfold optN at *
  split at h
  · exact ⟨_, h, fun _ hk => hk⟩
  · exact ⟨_, h.2, fun _ hk => ⟨h.1, hk⟩⟩
  · exact h.elim
theorem sliceFK_pick {t : TypeId} {p : AV} {lo hi mx : Option AV} {K : AV → Prop} (h : sliceFK P t p lo hi mx K) : ∃ v, K v ∧ sliceFK P t p lo hi mx (fun v' => v' = v) := by
  unfold sliceFK at *
  split at h
  · split at h
    · obtain ⟨hb, h⟩ := bif_elim h
      obtain ⟨l, h1, k1⟩ := optN_pick h
      obtain ⟨u, h2, k2⟩ := optN_pick h1
      obtain ⟨m, ⟨c1, c2, c3, hK⟩, k3⟩ := optN_pick h2
      refine ⟨_, hK, ?_⟩
      simp only [*, cond_true]
      exact k1 _ (k2 _ (k3 _ ⟨c1, c2, c3, rfl⟩))
    · exact h.elim
  · exact h.elim

theorem opX_pick {K : AV → Upd → Prop} (h : opX P o nm ρ F K) : ∃ v u, K v u ∧ opX P o nm ρ F (fun v' u' => v' = v ∧ u' = u) := by
  unfold opX at *
  split at h
  · split at h
    · split at h
      · exact h.elim
      · exact h.elim
      · exact h.elim
      · obtain ⟨v, h1, h2⟩ := sliceFK_pick h
        refine ⟨v, .none, h1, ?_⟩
        simp only [*]
        simpa using h2
    · exact h.elim
  · split at h
    · unfold nilK at *
      split at h
      · split at h
        · exact ⟨_, _, h, by simp only [*, and_true]⟩
        · exact ⟨_, _, h, by simp only [*, and_true]⟩
        · exact h.elim
      · exact h.elim
    · exact h.elim
  · split at h
    · split at h
      · split at h
        · exact ⟨_, _, h, by simp [*]⟩
        · exact h.elim
      · exact h.elim
    · split at h
      · split at h
        · exact ⟨_, _, h, by simp [*]⟩
        · exact ⟨_, _, h, by simp [*]⟩
        · exact h.elim
      · exact h.elim
    · split at h
      · split at h
        · obtain ⟨v, u, h1, h2⟩ := copyK_pick h
          exact ⟨v, u, h1, by simp only [*]⟩
        · exact h.elim
      · exact h.elim
    · split at h
      · split at h
        · obtain ⟨v, u, h1, h2⟩ := clearK_pick h
          exact ⟨v, u, h1, by simp only [*]⟩
        · exact h.elim
      · exact h.elim
    · split at h
      · split at h
        · obtain ⟨hb, h⟩ := bif_elim h
          obtain ⟨v, u, h1, h2⟩ := appendFK_pick h
          exact ⟨v, u, h1, by simp only [*, cond_true]⟩
        · exact h.elim
      · exact h.elim
    · exact h.elim
  · exact h.elim
end
end Go.AM
