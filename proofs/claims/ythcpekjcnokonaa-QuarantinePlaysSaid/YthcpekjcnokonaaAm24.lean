/- Maps with keys that are strings or integers: each operation's formula is sound. -/
import Derived.Test.YthcpekjcnokonaaAm10
import Derived.MapKept
set_option linter.unusedVariables false
set_option linter.unusedSimpArgs false
namespace Go.AM
open Go.RowKit

section
variable {P : Program} {w : World} {β : Beta} {ok : Nat → Prop} {σ : Heap} {nm : Nat} {F : Nat → Option Blk}

theorem zeroAV_rep {e : TypeId} {v : AV} (h : zeroAV P e = some v) : ∃ i z, P.info? e = some i ∧ i.zero = some z ∧ ∀ (w : World) (ok : Nat → Prop), PRep w ok v z := by
  unfold zeroAV at h
  split at h
  · rename_i i hi
    split at h
    · rename_i cs hz
      refine ⟨i, _, hi, hz, fun w ok => ?_⟩
      obtain ⟨as, h1, h2⟩ := Option.map_eq_some_iff.1 h
      subst h2
      obtain ⟨g1, g2⟩ := ofConsts_rep (w := w) (ok := ok) h1
      refine .ag (by simpa using g1) (fun j x hx => ?_) (fun j a x ha hx => (g2 j a x ha (by simpa using hx)).1)
      have hj : j < as.length := by
        rw [g1]
        simpa using (Array.getElem?_eq_some_iff.1 hx).1
      exact (g2 j as[j] x (by simp [hj]) (by simpa using hx)).2
    · rename_i z _ hz
      exact ⟨i, z, hi, hz, fun w ok => (ofConst_rep h).1⟩
    · simp at h
  · simp at h

/-- A key that is looked for, against one that is there. -/
theorem same_rep {kd : TypeDesc} {k a : AV} {kx ax : Value} (hkk : keyKind kd k = true) (hok : keyOk k a = true) (hk : ARep w β ok k kx) (ha : PRep w ok a ax) :
    MapKept.IsKey kd kx ∧ Instr.sameNow kd kx ax = some (keyEq k a) ∧ (keyEq k a = true → ax = kx) := by
  cases k with
  | s x =>
    have e := rep_str hk
    subst e
    cases a with
    | s y =>
      cases ha
      cases kd <;> simp [keyKind] at hkk
      refine ⟨trivial, ?_, fun h => ?_⟩
      · simp [Instr.sameNow, keyEq, beqBytes]
      · simp only [keyEq, strEq, decide_eq_true_eq] at h
        rw [h]
    | _ => simp [keyOk] at hok
  | i kk x =>
    have e := rep_int hk
    subst e
    cases a with
    | i k2 y =>
      cases ha
      cases kd <;> simp [keyKind] at hkk
      have hkk2 : kk = k2 := by simpa [keyOk] using hok
      subst hkk2
      refine ⟨by simp [MapKept.IsKey, hkk], ?_, fun h => ?_⟩
      · simp only [Instr.sameNow, keyEq, if_true]
        rw [show (x == y) = decide (x = y) by by_cases e : x = y <;> simp [e]]
      · simp only [keyEq, decide_eq_true_eq] at h
        rw [h]
    | _ => simp [keyOk] at hok
  | _ => cases kd <;> simp [keyKind] at hkk

theorem key_is {kd : TypeDesc} {k : AV} {kx : Value} (hkk : keyKind kd k = true) (hk : ARep w β ok k kx) : MapKept.IsKey kd kx := by
  cases k with
  | s x => rw [rep_str hk]; cases kd <;> simp_all [keyKind, MapKept.IsKey]
  | i kk x => rw [rep_int hk]; cases kd <;> simp_all [keyKind, MapKept.IsKey]
  | _ => cases kd <;> simp [keyKind] at hkk

/-- What is found, and where. -/
theorem find_rep {kd : TypeDesc} {k : AV} {kx : Value} (hkk : keyKind kd k = true) (hk : ARep w β ok k kx) : ∀ (es : List (AV × AV)) (ms : List MapEntry) (i : Nat), (∀ p ∈ es, keyOk k p.1 = true) → MapRep w ok es ms →
    (mfind k es i = none ∧ Instr.findNow kd kx ms i = some none) ∨ ∃ j a v m, mfind k es i = some (i + j, v) ∧ Instr.findNow kd kx ms i = some (some (i + j, m.val)) ∧ PRep w ok v m.val ∧ es[j]? = some (a, v) ∧ ms[j]? = some m ∧ m.key = kx
  | [], [], i, _, _ => .inl ⟨rfl, rfl⟩
  | [], m :: ms, i, _, h => by simp [MapRep] at h
  | p :: es, [], i, _, h => by simp [MapRep] at h
  | (a, v) :: es, m :: ms, i, hall, h => by
    obtain ⟨ha, hv⟩ := h.2 0 a v m rfl rfl
    have hrest : MapRep w ok es ms := ⟨by simpa using h.1, fun j a' v' m' h1 h2 => h.2 (j + 1) a' v' m' (by simpa using h1) (by simpa using h2)⟩
    have ih := find_rep hkk hk es ms (i + 1) (fun p hp => hall p (List.mem_cons_of_mem _ hp)) hrest
    obtain ⟨_, hs1, hs2⟩ := same_rep hkk (hall (a, v) (by simp)) hk ha
    unfold mfind Instr.findNow
    rw [hs1]
    cases hke : keyEq k a with
    | true =>
      right
      exact ⟨0, a, v, m, rfl, rfl, hv, rfl, rfl, hs2 hke⟩
    | false =>
      rcases ih with ⟨h1, h2⟩ | ⟨j, a', v', m', h1, h2, h3, h4, h5, h6⟩
      · exact .inl ⟨h1, h2⟩
      · refine .inr ⟨j + 1, a', v', m', ?_, ?_, h3, by simpa using h4, by simpa using h5, h6⟩
        · simp only [cond_false, h1, Nat.add_assoc, Nat.add_comm 1 j]
        · simp only [h2, Nat.add_assoc, Nat.add_comm 1 j]

theorem rep_mp {n : Nat} {x : Value} (h : ARep w β ok (.mp n) x) : ∃ r, x = .map (some r) ∧ β[n]? = some (some (.map (some r))) := by
  cases h with
  | p h => cases h
  | mp h => exact ⟨_, rfl, h⟩

theorem blk_map {n r t : Nat} {es : List (AV × AV)} (hm : GoodBlk w β ok n (.map t es)) (hb : β[n]? = some (some (.map (some r)))) : ∃ ms clock, w.heap[r]? = some (.map ms clock) ∧ MapRep w ok es ms.toList := by
  cases hm with
  | map h1 h2 h3 =>
    rw [hb] at h1
    simp only [Option.some.injEq, Value.map.injEq] at h1
    subst h1
    exact ⟨_, _, h2, h3⟩

theorem exVal_get {t : TypeId} {K : AV → Prop} (h : exVal P t K) : ∃ v, K v := by
  unfold exVal at h
  split at h
  · obtain ⟨cs, h⟩ := exCells_ex _ _ _ h; exact ⟨_, h⟩
  · obtain ⟨cs, h⟩ := exCells_ex _ _ _ h
    split at h
    · exact ⟨_, h⟩
    · exact h.elim

theorem lookupK_sound {t : TypeId} {m k : AV} {mx kx : Value} {okb : Bool} {K : AV → Prop} (h : lookupK P t F m k okb K) (hx : ARep w β ok m mx) (hk : ARep w β ok k kx) (hm : Mem w β ok σ) (hF : ∀ n c, F n = some c → look n σ = some c) :
    ∃ v r, K v ∧ (Instr.lookup t mx kx okb).run P w = .ok r w ∧ ARep w β ok v r := by
  unfold lookupK at h
  split at h
  · rename_i kt e n hu
    split at h
    · rename_i t' es kd z hFn hkd hz
      obtain ⟨hkk, hall, h⟩ := bif_elim h
      obtain ⟨v, hv, hK⟩ := exVal_get h
      obtain ⟨r, rfl, hb⟩ := rep_mp hx
      obtain ⟨ms, clock, hh, hrep⟩ := blk_map (hm.blks n _ (hF n _ hFn)) hb
      obtain ⟨inf, zv, z1, z2, z3⟩ := zeroAV_rep hz
      have hisk := key_is hkk hk
      have hck := MapKept.run_checkKey (P := P) (w := w) hkd hisk ms.isEmpty 9999
      rcases find_rep hkk hk es ms.toList 0 hall hrep with ⟨f1, f2⟩ | ⟨j, a, v', m', f1, f2, f3, _, _, _⟩
      · have hg : mget k es = none := by simp [mget, f1]
        rw [hg] at hv hK
        simp only [Option.getD_none, Option.isSome_none] at hv hK
        subst hv
        have hrun : (Instr.lookup t (.map (some r)) kx okb).run P w = .ok (if okb then .tuple #[zv, .bool false] else zv) w := by
          simp [Instr.lookup, run_underlying hu, MapKept.run_getObj_map hh, hck, MapKept.run_findKey hkd f2, Result.andThen, zeroValue, typeInfo, z1, z2]
        refine ⟨_, _, hK, hrun, ?_⟩
        cases okb with
        | true =>
          refine .tup rfl (fun i a x h1 h2 => ?_)
          match i with
          | 0 => simp at h1 h2; subst h1; subst h2; exact .p (z3 _ _)
          | 1 => simp at h1 h2; subst h1; subst h2; exact .p (.b _)
          | i + 2 => simp at h1
        | false => exact .p (z3 _ _)
      · have hg : mget k es = some v' := by simp [mget, f1]
        rw [hg] at hv hK
        simp only [Option.getD_some, Option.isSome_some] at hv hK
        subst hv
        have hrun : (Instr.lookup t (.map (some r)) kx okb).run P w = .ok (if okb then .tuple #[m'.val, .bool true] else m'.val) w := by
          simp [Instr.lookup, run_underlying hu, MapKept.run_getObj_map hh, hck, MapKept.run_findKey hkd f2, Result.andThen]
        refine ⟨_, _, hK, hrun, ?_⟩
        cases okb with
        | true =>
          refine .tup rfl (fun i a x h1 h2 => ?_)
          match i with
          | 0 => simp at h1 h2; subst h1; subst h2; exact .p f3
          | 1 => simp at h1 h2; subst h1; subst h2; exact .p (.b _)
          | i + 2 => simp at h1
        | false => exact .p f3
    · exact h.elim
  · exact h.elim

theorem MapRep.set {es : List (AV × AV)} {ms : Array MapEntry} {j : Nat} {k v : AV} {kx vx : Value} (h : MapRep w ok es ms.toList) (hk : PRep w ok k kx) (hv : PRep w ok v vx) :
    MapRep w ok (es.set j (k, v)) (ms.modify j fun e => { e with key := kx, val := vx }).toList := by
  refine ⟨by simpa using h.1, fun i a b m h1 h2 => ?_⟩
  rw [List.getElem?_set] at h1
  simp only [Array.getElem?_toList, Array.getElem?_modify] at h2
  by_cases hij : j = i
  · subst hij
    rw [if_pos rfl] at h1 h2
    split at h1
    · simp only [Option.some.injEq, Prod.mk.injEq] at h1
      obtain ⟨rfl, rfl⟩ := h1
      obtain ⟨e, _, he⟩ := Option.map_eq_some_iff.1 h2
      subst he
      exact ⟨hk, hv⟩
    · simp at h1
  · rw [if_neg hij] at h1 h2
    exact h.2 i a b m h1 (by simpa using h2)
theorem MapRep.push {es : List (AV × AV)} {ms : Array MapEntry} {k v : AV} {c : Nat} {kx vx : Value} (h : MapRep w ok es ms.toList) (hk : PRep w ok k kx) (hv : PRep w ok v vx) :
    MapRep w ok (es ++ [(k, v)]) (ms.push { key := kx, val := vx, born := c }).toList := by
  refine ⟨by simpa using h.1, fun i a b m h1 h2 => ?_⟩
  have hl : es.length = ms.toList.length := h.1
  rw [Array.toList_push] at h2
  by_cases hi : i < es.length
  · rw [List.getElem?_append_left hi] at h1
    rw [List.getElem?_append_left (by omega)] at h2
    exact h.2 i a b m h1 h2
  · rw [List.getElem?_append_right (by omega)] at h1
    rw [List.getElem?_append_right (by omega), ← hl] at h2
    have : i - es.length = 0 := by
      have := (List.getElem?_eq_some_iff.1 h1).1
      simp at this
      omega
    rw [this] at h1 h2
    simp at h1 h2
    obtain ⟨rfl, rfl⟩ := h1
    subst h2
    exact ⟨hk, hv⟩

theorem mapUpdateK_sound {t : TypeId} {m k v : AV} {mx kx vx : Value} {K : Upd → Prop} (h : mapUpdateK P t F m k v K) (hx : ARep w β ok m mx) (hk : ARep w β ok k kx) (hv : ARep w β ok v vx) (hm : Mem w β ok σ) (hF : ∀ n c, F n = some c → look n σ = some c) :
    ∃ u w', K u ∧ (Instr.mapUpdate t mx kx vx).run P w = .ok () w' ∧ OpOK w β ok σ nm w' β ok u := by
  unfold mapUpdateK at h
  split at h
  · rename_i kt e n hu
    split at h
    · rename_i t' es kd hFn hkd
      obtain ⟨hb, hall, hK⟩ := bif_elim h
      rw [Bool.and_eq_true] at hb
      obtain ⟨hkk, hpv⟩ := hb
      have hl := hF n _ hFn
      obtain ⟨r, rfl, hbt⟩ := rep_mp hx
      obtain ⟨ms, clock, hh, hrep⟩ := blk_map (hm.blks n _ hl) hbt
      have hisk := key_is hkk hk
      have hck := MapKept.run_checkKey (P := P) (w := w) hkd hisk false 9999
      have hbo : blockOf β n = some r := by rw [blockOf_some hbt]; rfl
      have hlt : r < w.heap.size := (Array.getElem?_eq_some_iff.1 hh).1
      have put : ∀ (ms' : Array MapEntry) (c' : Nat) (w' : World), w' = { w with heap := w.heap.setIfInBounds r (.map ms' c') } → (Fr (fun g => blockOf β n = some g) w w' → MapRep w' ok (mset k v es) ms'.toList) → OpOK w β ok σ nm w' β ok (.put n (.map t' (mset k v es))) := by
        intro ms' c' w' e hmr
        subst e
        have hf : Fr (fun g => blockOf β n = some g) w { w with heap := w.heap.setIfInBounds r (.map ms' c') } :=
          ⟨rfl, rfl, rfl, by simp, fun g hg hne => by
            have : r ≠ g := fun e => hne (e ▸ hbo)
            simp [this]⟩
        exact OpOK.put hm hl hf (GoodBlk.map (clock := c') hbt (by simp [hlt]) (hmr hf))
      have hpk : PRep w ok k kx := by
        cases k with
        | s x => rw [rep_str hk]; exact .s _
        | i kk x => rw [rep_int hk]; exact .i _ _
        | _ => cases kd <;> simp [keyKind] at hkk
      have hpvx := (pure_rep hv hpv).1
      have mono : ∀ {w' : World}, Fr (fun g => blockOf β n = some g) w w' → ∀ g, ok g → w'.heap[g]? = w.heap[g]? := fun hf => hm.okfr (hf.mono (fun g hg => ⟨n, _, hl, hg⟩))
      rcases find_rep hkk hk es ms.toList 0 hall hrep with ⟨f1, f2⟩ | ⟨j, a, v', m', f1, f2, f3, f4, f5, f6⟩
      · refine ⟨_, _, hK, ?_, put (ms.push { key := kx, val := vx, born := clock }) (clock + 1) _ rfl (fun hf => ?_)⟩
        · simp [Instr.mapUpdate, run_underlying hu, MapKept.run_getObj_map hh, hck, MapKept.run_findKey hkd f2, MapKept.run_setObj_map _ hh, Result.andThen]
        · have : mset k v es = es ++ [(k, v)] := by simp [mset, f1]
          rw [this]
          exact (hrep.mono (mono hf) (fun _ h => h)).push (hpk.mono (mono hf) (fun _ h => h)) (hpvx.mono (mono hf) (fun _ h => h))
      · have hmj : ms[j]? = some m' := by simpa using f5
        refine ⟨_, _, hK, ?_, put (ms.modify j fun e => { e with key := kx, val := vx }) clock _ rfl (fun hf => ?_)⟩
        · have hkey : (((ms[j]?).map (·.key)).getD kx) = kx := by rw [hmj]; simp [f6]
          simp [Instr.mapUpdate, run_underlying hu, MapKept.run_getObj_map hh, hck, MapKept.run_findKey hkd f2, hkey, MapKept.run_keyThatStays hisk, MapKept.run_setObj_map _ hh, Result.andThen]
        · have : mset k v es = es.set j (k, v) := by simp [mset, f1]
          rw [this]
          exact (hrep.mono (mono hf) (fun _ h => h)).set (hpk.mono (mono hf) (fun _ h => h)) (hpvx.mono (mono hf) (fun _ h => h))
    · exact h.elim
  · exact h.elim

theorem makeMap_sound {t : TypeId} (hm : Mem w β ok σ) (hn : β[nm]? = some none) :
    ∃ x w' β', (Instr.makeMap t none).run P w = .ok x w' ∧ ARep w' β' ok (.mp nm) x ∧ OpOK w β ok σ nm w' β' ok (.new (.map t [])) := by
  refine ⟨.map (some w.heap.size), w.alloc (.map #[] 0), _, ?_, .mp (get_set _ hn), OpOK.new hm hn (Fr.alloc _ _) (fun g hg => ?_) (.map (get_set _ hn) (MapKept.heap_alloc w _).1 ⟨rfl, fun j a v m h1 h2 => by simp at h1⟩)⟩
  · simp [Instr.makeMap, Result.andThen]
  · simp only [bk, Option.some.injEq] at hg; omega

end
end Go.AM
