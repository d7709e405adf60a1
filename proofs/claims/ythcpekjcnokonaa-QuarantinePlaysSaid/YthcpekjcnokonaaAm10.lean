/- Each operation's formula is sound (continued): struct and slice literals, make, append; all operations together. -/
import Derived.Test.YthcpekjcnokonaaAm9
namespace Go.AM
open Go.RowKit

section
variable {P : Program} {o : Oper} {a : Act} {w : World} {β : Beta} {ok : Nat → Prop} {σ : Heap} {nm : Nat} {ρ : Env} {F : Nat → Option Blk}

theorem build_sound {t : TypeId} {fs : Array Field} {z cs : List AV} {parts : Array (Nat × Operand)} (hs : Sit w β ok σ nm a ρ F) (hu : P.underlying t = some (.struct fs)) (hz : zeroCells P t = some z)
    (hf : fs.toList.all (fun f => (sizeT P f.type).isSome) = true) (h : fillAV (structPlace P fs) ρ parts.toList z = some cs) :
    ∃ x, (Instr.build t (parts.map fun p => (p.1, a.eval p.2))).run P w = .ok x w ∧ ARep w β ok (.ag cs) x := by
  obtain ⟨i, zv, h1, h2, h3, h4⟩ := zeroCells_rep hz
  have hO := zeroCells_repO (w := w) (β := β) (ok := ok) hz h1 h2
  obtain ⟨places, p1, p2⟩ := run_places (P := P) (w := w) (fs := fs) (fun f hf' => Option.isSome_iff_exists.1 (List.all_eq_true.1 hf f hf'))
  obtain ⟨C', f1, f2, f3⟩ := fillAV_sound hs.hr parts.toList z cs zv.cells h hO
  refine ⟨.agg C', ?_, .ag f2.1.1 f2.2 f2.1.2⟩
  unfold Instr.build
  simp only [Sem.run_bind, run_zeroValue h1 h2, Result.andThen_ok, run_underlying hu, p1]
  have : (fun j => places[j]?) = structPlace P fs := funext p2
  rw [this, Array.toList_map, f1]
  simp

theorem flatten_rep {z : List AV} : ∀ (n : Nat) (t : Nat), 0 < z.length → ((List.replicate n z).flatten)[t]? = if t < n * z.length then z[t % z.length]? else none
  | 0, t, _ => by simp
  | n + 1, t, h => by
    rw [List.replicate_succ, List.flatten_cons]
    by_cases h1 : t < z.length
    · rw [List.getElem?_append_left h1, if_pos (by rw [Nat.add_mul]; omega), Nat.mod_eq_of_lt h1]
    · rw [List.getElem?_append_right (by omega), flatten_rep n _ h]
      by_cases h2 : t < (n + 1) * z.length
      · rw [if_pos h2, if_pos (by rw [Nat.add_mul] at h2; omega), Nat.mod_eq_sub_mod (by omega : z.length ≤ t)]
      · rw [if_neg h2, if_neg (by rw [Nat.add_mul] at h2; omega)]

theorem get_chunks (sz : Nat) : ∀ (n : Nat) (l : List AV) (j : Nat), (chunks sz n l)[j]? = if j < n then some ((l.drop (j * sz)).take sz) else none
  | 0, l, j => by simp [chunks]
  | n + 1, l, j => by
    cases j with
    | zero => simp [chunks]
    | succ j =>
      simp only [chunks, List.getElem?_cons_succ, get_chunks sz n]
      by_cases h : j < n
      · rw [if_pos h, if_pos (by omega), List.drop_drop, Nat.add_mul, Nat.one_mul, Nat.add_comm]
      · rw [if_neg h, if_neg (by omega)]
theorem length_chunks (sz : Nat) : ∀ (n : Nat) (l : List AV), (chunks sz n l).length = n
  | 0, l => rfl
  | n + 1, l => by simp [chunks, length_chunks sz n]

theorem chunks_rep {sz n : Nat} {cs : List AV} {C : Array Value} (hl : cs.length = n * sz) (h : RepO w β ok cs C) (hp : cs.all pureV = true) : RowRep w ok sz (chunks sz n cs) C.toList := by
  intro j x hx
  rw [get_chunks] at hx
  split at hx
  · rename_i hj
    injection hx with hx
    subst hx
    have hin : ∀ t, t < sz → j * sz + t < n * sz := fun t ht => mul_in hj ht
    have hlen : ((cs.drop (j * sz)).take sz).length = sz := by
      have : (j + 1) * sz ≤ n * sz := Nat.mul_le_mul_right _ hj
      rw [Nat.add_mul] at this
      simp
      omega
    refine ⟨hlen, fun t y hy => ?_⟩
    rw [List.getElem?_take] at hy
    split at hy
    · rename_i ht
      rw [List.getElem?_drop] at hy
      have h1 := h.1.1
      have hq : j * sz + t < C.size := by have := hin t ht; omega
      have e : C[j * sz + t]? = some C[j * sz + t] := by simp [hq]
      have r1 := h.1.2 _ _ _ hy e
      exact ⟨_, by rw [Array.getElem?_toList]; exact e, h.2 _ _ e, (pure_rep r1 (List.all_eq_true.1 hp y (List.mem_iff_getElem?.2 ⟨_, hy⟩))).1⟩
    · simp at hy
  · simp at hx

theorem buildSlice_sound {t e sz len : Nat} {z cs : List AV} {parts : Array (Nat × Operand)} (hs : Sit w β ok σ nm a ρ F) (hu : elemT P t = some e) (hsz : sizeT P e = some sz) (hz : zeroCells P e = some z)
    (h0 : 0 < sz) (hle : len * sz ≤ 16777216) (hzl : z.length = sz) (h : fillAV (fun i => some (i * sz, sz)) ρ parts.toList ((List.replicate len z).flatten) = some cs) (hp : cs.all pureV = true) :
    ∃ x w' β', (Instr.buildSlice t len (parts.map fun p => (p.1, a.eval p.2))).run P w = .ok x w' ∧ ARep w' β' ok (.own nm) x ∧ OpOK w β ok σ nm w' β' ok (.new (.row e sz (chunks sz len cs))) := by
  obtain ⟨i, zv, h1, h2, h3, h4⟩ := zeroCells_rep hz
  have hzc : zv.cells.size = sz := by omega
  have hO : RepO w β ok ((List.replicate len z).flatten) ((Array.range (len * sz)).map (zv.cells[· % zv.cells.size]!)) := by
    have hget : ∀ (j : Nat) (x : Value), ((Array.range (len * sz)).map (zv.cells[· % zv.cells.size]!))[j]? = some x → j < len * sz ∧ zv.cells[j % sz]? = some x := by
      intro j x hx
      rw [Array.getElem?_map] at hx
      by_cases hj : j < len * sz
      · rw [Array.getElem?_eq_getElem (by simpa using hj)] at hx
        simp at hx
        refine ⟨hj, ?_⟩
        have hm : j % zv.cells.size < zv.cells.size := Nat.mod_lt _ (by omega)
        rw [← hx, ← hzc]
        simp [hm]
      · rw [Array.getElem?_eq_none (by simpa using hj)] at hx
        simp at hx
    have hb := zeroCells_repO (w := w) (β := β) (ok := ok) hz h1 h2
    refine ⟨⟨?_, fun j y x hy hx => ?_⟩, fun j x hx => ?_⟩
    · simp [hzl]
    · obtain ⟨hj, hx⟩ := hget j x hx
      rw [flatten_rep len j (by omega), hzl, if_pos hj] at hy
      exact hb.1.2 _ _ _ hy hx
    · exact hb.2 _ _ (hget j x hx).2
  obtain ⟨C', f1, f2, f3⟩ := fillAV_sound hs.hr parts.toList _ cs _ h hO
  have hcl : cs.length = len * sz := by rw [f3]; simp [hzl]
  have hCs : C'.size = len * sz := by have := f2.1.1; omega
  have hmx : len ≤ maxLen := by
    unfold maxLen
    have : len * 1 ≤ len * sz := Nat.mul_le_mul_left _ h0
    omega
  have hown := World.ownsRow_lit (base := 0) (e := e) (size := sz) w C' len (Nat.zero_le _) hmx hCs
  have hrow := new_row (β := β) (σ := σ) (nm := nm) (xs := chunks sz len cs) (T := e) hs.hm hs.hn (by rw [length_chunks]; exact hown) (chunks_rep hcl f2 hp)
  refine ⟨_, _, _, ?_, hrow.1, hrow.2⟩
  unfold Instr.buildSlice
  simp only [Sem.run_bind, run_underlying (elemT_eq hu), Result.andThen_ok, run_sizeOf w hsz]
  rw [if_neg (by omega)]
  have e2 : ∀ (zs : Array Value), len * sz = 0 → (Array.range (len * sz)).map (zs[· % zs.size]!) = (Array.range (len * sz)).map (zv.cells[· % zv.cells.size]!) := by
    intro zs hz0
    rw [hz0]; simp
  by_cases hz0 : len * sz = 0
  · rw [if_pos hz0]
    simp only [Sem.run_bind, Sem.run_pure, Result.andThen_ok, e2 _ hz0]
    rw [Array.toList_map, f1]
    simp [newRow]
  · rw [if_neg hz0]
    simp only [Sem.run_bind, Sem.run_pure, Result.andThen_ok, run_zeroValue h1 h2]
    rw [Array.toList_map, f1]
    simp [newRow]

/-! ### make -/
theorem replicate_rep {z : List AV} {zc : Array Value} {sz n m : Nat} (hl : z.length = zc.size) (hsz : zc.size = sz) (hnm : n ≤ m)
    (hr : ∀ (j : Nat) (y : AV) (x : Value), z[j]? = some y → zc[j]? = some x → PRep w ok y x ∧ x.oneCell' = true) : RowRep w ok sz (List.replicate n z) ((madeCells zc (m * sz)).toList.take (n * sz)) := by
  intro j x hx
  rw [List.getElem?_replicate] at hx
  split at hx
  · rename_i hj
    injection hx with hx
    subst hx
    refine ⟨by omega, fun t y hy => ?_⟩
    have ht : t < sz := by have := (List.getElem?_eq_some_iff.1 hy).1; omega
    have hin := mul_in hj ht
    have hin2 := mul_in (show j < m by omega) ht
    have hz : zc[t]? = some zc[t] := by simp
    obtain ⟨h1, h2⟩ := hr t y _ hy hz
    refine ⟨zc[t], ?_, h2, h1⟩
    rw [List.getElem?_take, if_pos hin, Array.getElem?_toList]
    unfold madeCells
    rw [Array.getElem?_map, Array.getElem?_eq_getElem (by simpa using hin2)]
    simp only [Array.getElem_range, Option.map_some, Option.some.injEq]
    have hmod : (j * sz + t) % zc.size = t := by rw [hsz, Nat.add_comm, Nat.add_mul_mod_self_right, Nat.mod_eq_of_lt ht]
    rw [hmod]
    simp [show t < zc.size by omega]
  · simp at hx

theorem makeSlice_sound {t e : TypeId} {i : TypeInfo} {z : List AV} {n m : Int} {kl kc : IntKind} (hm : Mem w β ok σ) (hn : β[nm]? = some none) (hu : elemT P t = some e) (hi : P.info? e = some i) (hz : zeroCells P e = some z)
    (hsz : i.size = z.length) (h0 : 0 ≤ n) (hnm : n ≤ m) (h63 : m ≤ 9223372036854775807) (hb : (i.bytes : Int) * m ≤ 281474976710656) :
    ∃ x w' β', (Instr.makeSlice t (.int kl n) (.int kc m)).run P w = .ok x w' ∧ ARep w' β' ok (.own nm) x ∧ OpOK w β ok σ nm w' β' ok (.new (.row e i.size (List.replicate n.toNat z))) := by
  obtain ⟨i', zv, h1, h2, h3, h4⟩ := zeroCells_rep hz
  rw [hi] at h1
  injection h1 with h1
  subst h1
  have hr := run_make (P := P) w t e i zv (elemT_eq hu) hi h2 kl kc n m h0 hnm hb h63
  have hcs : (madeCells zv.cells (m.toNat * i.size)).size = m.toNat * i.size := size_madeCells _ _
  have hle : n.toNat * i.size ≤ m.toNat * i.size := Nat.mul_le_mul_right _ (by omega)
  have hown : (w.alloc (.cells (madeCells zv.cells (m.toNat * i.size)) e)).ownsRow 0 e i.size (.slice (some ⟨w.heap.size, 0, none⟩) n.toNat m.toNat) (List.replicate n.toNat z).length
      ((madeCells zv.cells (m.toNat * i.size)).toList.take (n.toNat * i.size)) := by
    rw [List.length_replicate]
    exact ⟨by rw [List.length_take, Array.length_toList, hcs]; omega, .inr ⟨w.heap.size, m.toNat, _, rfl, Nat.zero_le _, heap_alloc_new w _, by omega, by unfold maxLen; omega, hcs, rfl⟩⟩
  have hrow := new_row (β := β) (σ := σ) (nm := nm) (xs := List.replicate n.toNat z) (T := e) hm hn hown (replicate_rep (m := m.toNat) h3 (by omega) (by omega) (h4 w ok))
  exact ⟨_, _, _, hr, hrow.1, hrow.2⟩

/-! ### append -/
/-- What is appended, as it lies in memory. -/
theorem src_rep {e sz : Nat} {x : AV} {xv : Value} {ys : List (List AV)} (hx : ARep w β ok x xv) (hm : Mem w β ok σ) (hF : ∀ n c, F n = some c → look n σ = some c)
    (hs : elemsOf F x = some (e, ys)) (hw : ∀ y ∈ ys, y.length = sz) :
    ∃ A c news, xv = .slice A ys.length c ∧ news.length = ys.length * sz ∧ (0 < ys.length → ∃ ad, A = some ad ∧ ∀ (j : Nat) (u : Value), news[j]? = some u → w.cell? (ad.add j) = some u) ∧
      (∀ u ∈ news, u.oneCell' = true) ∧ RowRep w ok sz ys news := by
  have hw' : ∀ (j : Nat) (y : List AV), ys[j]? = some y → y.length = sz := fun j y hy => hw y (List.mem_iff_getElem?.2 ⟨j, hy⟩)
  have empty : ys = [] → ∀ A c, xv = .slice A 0 c → ∃ A c news, xv = .slice A ys.length c ∧ news.length = ys.length * sz ∧ (0 < ys.length → ∃ ad, A = some ad ∧ ∀ (j : Nat) (u : Value), news[j]? = some u → w.cell? (ad.add j) = some u) ∧
      (∀ u ∈ news, u.oneCell' = true) ∧ RowRep w ok sz ys news := by
    intro h A c hxv
    subst h
    exact ⟨A, c, [], by simpa using hxv, by simp, by simp, by simp, fun j x hx => by simp at hx⟩
  have rowcase : ∀ (g l c off len : Nat) (A : Option Addr) (c' : Nat) (cells : List Value) (e0 : TypeId) (xs : List (List AV)), w.ownsRow 0 e0 sz (.slice (some ⟨g, 0, none⟩) l c) xs.length cells → RowRep w ok sz xs cells →
      off + len ≤ xs.length → (0 < len → A = some ⟨g, off * sz, none⟩) → ys = (xs.drop off).take len → xv = .slice A len c' →
      ∃ A c news, xv = .slice A ys.length c ∧ news.length = ys.length * sz ∧ (0 < ys.length → ∃ ad, A = some ad ∧ ∀ (j : Nat) (u : Value), news[j]? = some u → w.cell? (ad.add j) = some u) ∧
        (∀ u ∈ news, u.oneCell' = true) ∧ RowRep w ok sz ys news := by
    intro g l c off len A c' cells e0 xs ho hr hle hA hys hxv
    have hlen : ys.length = len := by rw [hys]; simp; omega
    have hcl := ho.1
    have hmul : off * sz + len * sz ≤ xs.length * sz := by rw [← Nat.add_mul]; exact Nat.mul_le_mul_right _ hle
    have hget : ∀ (j : Nat), ((cells.drop (off * sz)).take (len * sz))[j]? = if j < len * sz then cells[off * sz + j]? else none := by
      intro j
      rw [List.getElem?_take, List.getElem?_drop]
    have hyget : ∀ (j : Nat) (x : List AV), ys[j]? = some x → xs[off + j]? = some x ∧ j < len := by
      intro j x hx
      rw [hys, List.getElem?_take] at hx
      split at hx
      · rw [List.getElem?_drop] at hx; exact ⟨hx, by assumption⟩
      · simp at hx
    refine ⟨A, c', (cells.drop (off * sz)).take (len * sz), by rw [hlen]; exact hxv, by rw [hlen]; simp; omega, fun h0 => ⟨_, hA (by omega), fun j u hu => ?_⟩, fun u hu => ?_, fun j x hx => ?_⟩
    · rw [hget] at hu
      split at hu
      · obtain ⟨hl1, _⟩ := own_len ho
        subst hl1
        have hc0 := ho.cellAt (off * sz + j) (by omega)
        rw [Addr.add_lit, hc0]; exact hu
      · simp at hu
    · obtain ⟨j, hj⟩ := List.mem_iff_getElem?.1 hu
      rw [hget] at hj
      split at hj
      · rename_i hjl
        by_cases hsz0 : sz = 0
        · subst hsz0; omega
        · have hdm : off * sz + j = ((off * sz + j) / sz) * sz + (off * sz + j) % sz := by rw [Nat.mul_comm ((off * sz + j) / sz) sz]; exact (Nat.div_add_mod _ _).symm
          have hq : (off * sz + j) / sz < xs.length := by
            rw [Nat.div_lt_iff_lt_mul (by omega)]; omega
          have hx0 : xs[(off * sz + j) / sz]? = some xs[(off * sz + j) / sz] := List.getElem?_eq_getElem hq
          obtain ⟨w1, w2⟩ := hr _ _ hx0
          have hr0 : (off * sz + j) % sz < xs[(off * sz + j) / sz].length := by rw [w1]; exact Nat.mod_lt _ (by omega)
          obtain ⟨q, q1, q2, _⟩ := w2 _ _ (List.getElem?_eq_getElem hr0)
          rw [← hdm, hj] at q1
          injection q1 with q1
          rw [q1]; exact q2
      · simp at hj
    · obtain ⟨h1, h2⟩ := hyget j x hx
      obtain ⟨w1, w2⟩ := hr _ _ h1
      refine ⟨w1, fun t y hy => ?_⟩
      obtain ⟨q, q1, q2, q3⟩ := w2 t y hy
      refine ⟨q, ?_, q2, q3⟩
      have ht : t < sz := by have := (List.getElem?_eq_some_iff.1 hy).1; omega
      rw [hget, if_pos (mul_in h2 ht), ← q1, Nat.add_mul]
      congr 1
      omega
  unfold elemsOf at hs
  split at hs
  · rename_i ys'
    simp only [Option.some.injEq, Prod.mk.injEq] at hs
    obtain ⟨_, rfl⟩ := hs
    cases hx with
    | p hp => cases hp with
      | @sl _ A c sz' g hc hni hwd had h1 hr =>
        by_cases h0 : ys'.length = 0
        · exact empty (List.eq_nil_of_length_eq_zero h0) A c (by rw [h0])
        · have hsz : sz' = sz := by
            have hx0 : ys'[0]? = some ys'[0] := List.getElem?_eq_getElem (by omega)
            rw [← hwd 0 _ hx0]
            exact hw' 0 _ hx0
          subst hsz
          obtain ⟨ad, rfl, hok, hcell⟩ := had (by omega)
          have hget : ∀ (j : Nat) (u : Value), ((List.range (ys'.length * sz')).map g)[j]? = some u → j < ys'.length * sz' ∧ u = g j := by
            intro j u hu
            rw [List.getElem?_map] at hu
            by_cases hj : j < ys'.length * sz'
            · rw [List.getElem?_range hj] at hu; simp at hu; exact ⟨hj, hu.symm⟩
            · rw [List.getElem?_eq_none (by simpa using hj)] at hu; simp at hu
          refine ⟨_, c, (List.range (ys'.length * sz')).map g, rfl, by simp, fun _ => ⟨ad, rfl, fun j u hu => ?_⟩, fun u hu => ?_, fun j x hj => ⟨hwd j x hj, fun t y hy => ⟨g (j * sz' + t), ?_, ?_, hr j x t y hj hy⟩⟩⟩
          · obtain ⟨h3, rfl⟩ := hget j u hu
            exact hcell j h3
          · obtain ⟨j, hj⟩ := List.mem_iff_getElem?.1 hu
            obtain ⟨h3, rfl⟩ := hget j u hj
            exact h1 j h3
          · have hin := mul_in (List.getElem?_eq_some_iff.1 hj).1 (show t < sz' by have := (List.getElem?_eq_some_iff.1 hy).1; rw [hwd j x hj] at this; exact this)
            rw [List.getElem?_map, List.getElem?_range hin]; rfl
          · exact h1 _ (mul_in (List.getElem?_eq_some_iff.1 hj).1 (show t < sz' by have := (List.getElem?_eq_some_iff.1 hy).1; rw [hwd j x hj] at this; exact this))
  · simp only [Option.some.injEq, Prod.mk.injEq] at hs
    obtain ⟨_, rfl⟩ := hs
    exact empty rfl none 0 (rep_nil hx)
  · simp only [Option.some.injEq, Prod.mk.injEq] at hs
    obtain ⟨_, rfl⟩ := hs
    obtain ⟨A, c, e⟩ := rep_sle hx
    exact empty rfl (some A) c e
  · rename_i m
    split at hs
    · rename_i e0 sz0 xs hFm
      simp only [Option.some.injEq, Prod.mk.injEq] at hs
      obtain ⟨_, rfl⟩ := hs
      cases hm.blks m _ (hF m _ hFm) with
      | @row _ _ _ v0 cells hb0 ho hr =>
        cases hx with
        | p hp => cases hp
        | @own _ A l c hp =>
          rw [hp] at hb0
          simp only [Option.some.injEq] at hb0
          subst hb0
          have hl := own_len ho
          by_cases h0 : xs.length = 0
          · exact empty (List.eq_nil_of_length_eq_zero h0) A c (by rw [hl.1, h0])
          · have hszz : sz0 = sz := by
              have hx0 : xs[0]? = some xs[0] := List.getElem?_eq_getElem (by omega)
              rw [← (hr 0 _ hx0).1]
              exact hw' 0 _ hx0
            subst hszz
            rcases ho.2 with ⟨e1, e2⟩ | ⟨g, cap, cur, e1, _⟩
            · omega
            · simp only [Value.slice.injEq] at e1
              obtain ⟨rfl, _, rfl⟩ := e1
              exact rowcase g l c 0 l _ c cells e0 xs ho hr (by omega) (fun _ => by simp) (by rw [List.drop_zero, List.take_of_length_le (by omega)]) rfl
    · simp at hs
  · rename_i m szr off len
    split at hs
    · rename_i e0 sz0 xs hFm
      cases hbb : Nat.beq szr sz0 with
      | false => rw [hbb] at hs; simp at hs
      | true =>
        rw [hbb] at hs
        simp only [cond_true, Option.some.injEq, Prod.mk.injEq] at hs
        obtain ⟨_, hys⟩ := hs
        have hb' := beq_nat hbb
        subst hb'
        cases hm.blks m _ (hF m _ hFm) with
        | @row _ _ _ v0 cells hb0 ho hr =>
          cases hx with
          | p hp => cases hp
          | row0 =>
            exact empty (by rw [← hys]; simp) _ 0 rfl
          | @row _ _ _ _ g l c c' A hp hc hll hin ha =>
            rw [hp] at hb0
            simp only [Option.some.injEq] at hb0
            subst hb0
            have hl := own_len ho
            by_cases h0 : len = 0
            · subst h0
              exact empty (by rw [← hys]; simp) A c' rfl
            · have hszz : szr = sz := by
                have hx0 : xs[off]? = some xs[off] := List.getElem?_eq_getElem (by omega)
                have hy0 : ys[0]? = some xs[off] := by rw [← hys, List.getElem?_take, if_pos (by omega), List.getElem?_drop]; exact hx0
                rw [← (hr off _ hx0).1]
                exact hw' 0 _ hy0
              subst hszz
              exact rowcase g l c off len A c' cells e0 xs ho hr (by omega) (fun _ => ha (by omega)) hys.symm rfl
    · simp at hs
  · simp at hs
end
end Go.AM
