/- Calls on abstract values are sound (continued): what comes back. -/
import Derived.Test.YthcpekjcnokonaaAm13
set_option linter.unusedVariables false
namespace Go.AM
open Go.RowKit
section
variable {P : Program} {w : World} {β : Beta} {ok : Nat → Prop} {σ : Heap} {nm : Nat} {F : Nat → Option Blk}

theorem look_mem : ∀ {s : Heap} {n : Nat} {b : Blk}, keysNodup s = true → (n, b) ∈ s → look n s = some b
  | [], n, b, h, hm => by simp at hm
  | (m, x) :: r, n, b, h, hm => by
    simp only [keysNodup, List.map_cons, nodupN, Bool.and_eq_true, Bool.not_eq_true'] at h
    rw [look_cons]
    rcases List.mem_cons.1 hm with e | hm'
    · injection e with e1 e2
      subst e1
      subst e2
      simp
    · have hne : n ≠ m := by
        intro e
        subst e
        have : memN n (r.map (·.1)) = true := memN_iff.2 (List.mem_map.2 ⟨(n, b), hm', rfl⟩)
        rw [this] at h
        simp at h
      rw [if_neg hne]
      exact look_mem h.2 hm'

theorem OpOK.call {w' : World} {ns nsF : List Nat} {β0 β0' β' : Beta} {okc' : Nat → Prop} {σin σout σout' : Heap} (hm : Mem w β ok σ) (hn : β[nm]? = some none)
    (hns : ∀ n ∈ ns, ∃ c, look n σ = some c) (hdis : ∀ n ∈ ns, n ∉ nsF)
    (hlive : ∀ g, live β0 σin g → ∃ n c, n ∈ ns ∧ look n σ = some c ∧ blockOf β n = some g)
    (hmem : Mem w' β0' okc' σout) (hfr : Fr (live β0 σin) w w') (hokm : ∀ g, okd ok β σ nsF g → okc' g)
    (hlv : ∀ g, live β0' σout g → live β0 σin g ∨ w.heap.size ≤ g) (hokn : ∀ g, okc' g → okd ok β σ nsF g ∨ live β0 σin g ∨ w.heap.size ≤ g)
    (hβ' : β' = β ∨ ∃ v, β' = β.set nm (some v)) (hsame : Same β0' β' (backN ns nm))
    (hk : keysNodup σout = true) (hout : outBlks (backN ns nm) σout = some σout') (hinj : ∀ i j n, backN ns nm i = some n → backN ns nm j = some n → i = j) :
    OpOK w β ok σ nm w' β' okc' (.call (ns ++ nsF) σout') := by
  have hext : BExt β β' := by
    rcases hβ' with rfl | ⟨v, rfl⟩
    · exact .refl _
    · exact BExt.set v hn
  have hlen : β'.length = β.length := by
    rcases hβ' with rfl | ⟨v, rfl⟩
    · rfl
    · simp
  have hoknm : ∀ g, ok g → okc' g := fun g h => hokm g (.inl h)
  have hnl := not_look hm hn
  -- a name of the new heap
  have hnew : ∀ n c, look n (hsets σout' (hdels (ns ++ nsF) σ)) = some c →
      (∃ i b, look i σout = some b ∧ backN ns nm i = some n ∧ renBlk (backN ns nm) b = some c) ∨ (look n σ = some c ∧ n ∉ ns ∧ n ∉ nsF) := by
    intro n c h
    rcases look_hsets σout' (hdels (ns ++ nsF) σ) n with ⟨d, h1, h2⟩ | ⟨h1, h2⟩
    · rw [h1] at h
      injection h with h
      subst h
      obtain ⟨i, b, g1, g2, g3⟩ := outBlks_mem hout n d h2
      exact .inl ⟨i, b, look_mem hk g1, g2, g3⟩
    · rw [h1, look_hdels] at h
      split at h
      · simp at h
      · rename_i hn'
        simp only [List.mem_append, not_or] at hn'
        exact .inr ⟨h, hn'.1, hn'.2⟩
  have hnb : ∀ i n b, look i σout = some b → backN ns nm i = some n → blockOf β' n = blockOf β0' i := by
    intro i n b h1 h2
    obtain ⟨⟨v, hv⟩, _⟩ := (hmem.blks i b h1).block
    rw [blockOf_some hv, blockOf_some (hsame i n v h2 hv)]
  have hfar : ∀ n c g, look n σ = some c → n ∉ ns → blockOf β n = some g → ¬ live β0 σin g := by
    intro n c g h1 h2 h3 h4
    obtain ⟨m, d, hm1, hm2, hm3⟩ := hlive g h4
    exact hm.inj n m c d g (fun e => h2 (e ▸ hm1)) h1 hm2 h3 hm3
  have hob : ∀ n c, look n σ = some c → blockOf β' n = blockOf β n := by
    intro n c h
    obtain ⟨⟨v, hv⟩, _⟩ := (hm.blks n c h).block
    rw [blockOf_some hv, blockOf_some (hext n v hv)]
  have hfl : Fr (live β σ) w w' := hfr.mono (fun g hg => by
    obtain ⟨m, d, _, h2, h3⟩ := hlive g hg
    exact ⟨m, d, h2, h3⟩)
  refine ⟨⟨?_, ?_, ?_, hmem.oklt⟩, hext, hlen, hoknm, hfl, ?_, ?_, ?_⟩
  · intro n c h
    rcases hnew n c h with ⟨i, b, h1, h2, h3⟩ | ⟨h1, h2, h3⟩
    · exact renBlk_sound hsame h2 h3 (hmem.blks i b h1)
    · exact (hm.blks n c h1).mono (hm.okfr hfl) hoknm hext (fun g hg => hfr.block g ((hm.blks n c h1).block.2 g hg) (hfar n c g h1 h2 hg))
  · intro n m c d g hnm h1 h2 hb hb2
    rcases hnew n c h1 with ⟨i, b, i1, i2, i3⟩ | ⟨i1, i2, i3⟩
    · rw [hnb i n b i1 i2] at hb
      rcases hnew m d h2 with ⟨j, b', j1, j2, j3⟩ | ⟨j1, j2, j3⟩
      · rw [hnb j m b' j1 j2] at hb2
        refine hmem.inj i j b b' g (fun e => ?_) i1 j1 hb hb2
        subst e
        rw [i2] at j2
        injection j2 with j2
        exact hnm j2
      · rw [hob m d j1] at hb2
        rcases hlv g ⟨i, b, i1, hb⟩ with h4 | h4
        · exact hfar m d g j1 j2 hb2 h4
        · have := (hm.blks m d j1).block.2 g hb2; omega
    · rw [hob n c i1] at hb
      rcases hnew m d h2 with ⟨j, b', j1, j2, j3⟩ | ⟨j1, j2, j3⟩
      · rw [hnb j m b' j1 j2] at hb2
        rcases hlv g ⟨j, b', j1, hb2⟩ with h4 | h4
        · exact hfar n c g i1 i2 hb h4
        · have := (hm.blks n c i1).block.2 g hb; omega
      · rw [hob m d j1] at hb2
        exact hm.inj n m c d g hnm i1 j1 hb hb2
  · intro n c g h hb hokg
    rcases hnew n c h with ⟨i, b, i1, i2, i3⟩ | ⟨i1, i2, i3⟩
    · rw [hnb i n b i1 i2] at hb
      exact hmem.ro i b g i1 hb hokg
    · rw [hob n c i1] at hb
      rcases hokn g hokg with (h4 | ⟨m, d, h5, h6, h7⟩) | h4 | h4
      · exact hm.ro n c g i1 hb h4
      · exact hm.inj n m c d g (fun e => i3 (e ▸ h5)) i1 h6 hb h7
      · exact hfar n c g i1 i2 hb h4
      · have := (hm.blks n c i1).block.2 g hb; omega
  · rintro g ⟨n, c, h, hb⟩
    rcases hnew n c h with ⟨i, b, i1, i2, i3⟩ | ⟨i1, i2, i3⟩
    · rw [hnb i n b i1 i2] at hb
      rcases hlv g ⟨i, b, i1, hb⟩ with h4 | h4
      · obtain ⟨m, d, _, h2, h3⟩ := hlive g h4
        exact .inl ⟨m, d, h2, h3⟩
      · exact .inr h4
    · rw [hob n c i1] at hb
      exact .inl ⟨n, c, i1, hb⟩
  · intro g hg
    rcases hokn g hg with (h4 | ⟨m, d, h5, h6, h7⟩) | h4 | h4
    · exact .inl h4
    · exact .inr (.inl ⟨m, d, h6, h7⟩)
    · obtain ⟨m, d, _, h2, h3⟩ := hlive g h4
      exact .inr (.inl ⟨m, d, h2, h3⟩)
    · exact .inr (.inr h4)
  · intro m hmn h
    rcases hβ' with rfl | ⟨v, rfl⟩
    · exact h
    · rw [get_set_ne v hmn]; exact h

theorem backN_inj {ns : List Nat} (hnd : ns.Nodup) (hnm : nm ∉ ns) : ∀ i j n, backN ns nm i = some n → backN ns nm j = some n → i = j := by
  intro i j n hi hj
  have key : ∀ i n, backN ns nm i = some n → (i < ns.length ∧ ns[i]? = some n) ∨ (i = ns.length ∧ n = nm) := by
    intro i n h
    unfold backN at h
    cases hb : Nat.blt i ns.length with
    | true => rw [hb] at h; exact .inl ⟨Nat.le_of_ble_eq_true hb, h⟩
    | false =>
      rw [hb] at h
      cases hc : Nat.beq i ns.length with
      | true => rw [hc] at h; simp at h; exact .inr ⟨beq_nat hc, h.symm⟩
      | false => rw [hc] at h; simp at h
  rcases key i n hi with ⟨h1, h2⟩ | ⟨h1, h2⟩
  · rcases key j n hj with ⟨h3, h4⟩ | ⟨h3, h4⟩
    · exact (List.getElem?_inj h1 hnd).1 (h2.trans h4.symm)
    · subst h4; exact absurd (List.mem_iff_getElem?.2 ⟨i, h2⟩) hnm
  · rcases key j n hj with ⟨h3, h4⟩ | ⟨h3, h4⟩
    · subst h2; exact absurd (List.mem_iff_getElem?.2 ⟨j, h4⟩) hnm
    · omega

theorem callK_sound {T : Nat → Option CSpec} {g : Nat} {args : List AV} {vs : Array Value} {K : AV → Upd → Prop} (hm : Mem w β ok σ) (hn : β[nm]? = some none) (hF : ∀ n c, F n = some c → look n σ = some c)
    (hargs : RepL w β ok args vs) (h : callK P T g args nm F K) :
    goFn P g = true ∧ Calls P g vs w (fun e w' => ∃ x v u β' ok', e = .returned x ∧ K v u ∧ ARep w' β' ok' v x ∧ OpOK w β ok σ nm w' β' ok' u) := by
  unfold callK at h
  obtain ⟨hgo, h⟩ := bif_elim h
  refine ⟨hgo, ?_⟩
  split at h
  · rename_i fargs nsF hfz
    dsimp only at h
    generalize hnsE : clo F 3 (dedup (fargs.flatMap (refs 20)) []) = ns at h
    obtain ⟨hb, h⟩ := bif_elim h
    rw [Bool.and_eq_true] at hb
    have hnd := nodupN_iff hb.1
    have hdis : ∀ n ∈ ns, n ∉ nsF := by
      intro n h1 h2
      have := List.all_eq_true.1 hb.2 n h1
      rw [memN_iff.2 h2] at this
      simp at this
    split at h
    · rename_i args' σin hren hin
      have hex : ∃ v σout, ACalls P g args' σin v σout ∧ callB ns nsF nm K v σout := by
        cases hT : T g with
        | some S => rw [hT] at h; obtain ⟨v, s, h, _⟩ := S.ok _ _ _ h; exact ⟨v, s, h⟩
        | none => rw [hT] at h; obtain ⟨v, h⟩ := exRes_ex h; exact ⟨v, [], h⟩
      obtain ⟨v, σout, hcall, hback⟩ := hex
      unfold callB at hback
      -- the callee's own names
      let β0 : Beta := ns.map (fun n => (β[n]?).join)
      have hβ0 : ∀ (i n : Nat), ns[i]? = some n → β0[i]? = some ((β[n]?).join) := by
        intro i n hi
        simp [β0, List.getElem?_map, hi]
      have hns : ∀ n ∈ ns, ∃ c, look n σ = some c := by
        intro n hnn
        obtain ⟨b, hb'⟩ := inBlks_all hin n hnn
        exact ⟨b, hF n b hb'⟩
      have hget : ∀ n ∈ ns, ∃ x, β[n]? = some (some x) := by
        intro n hnn
        obtain ⟨c, hc⟩ := hns n hnn
        exact (hm.blks n c hc).block.1
      have hsame0 : Same β β0 (fun n => idx n 0 ns) := by
        intro n i x hi hx
        obtain ⟨_, h1⟩ := idx_some hi
        rw [Nat.sub_zero] at h1
        rw [hβ0 i n h1, hx]
        rfl
      have hokc : ∀ g', ok g' → okd ok β σ nsF g' := fun g' h' => .inl h'
      have hmc : Mem w β (okd ok β σ nsF) (hdels nsF σ) := (OpOK.del (nm := nm) nsF hm).mem
      obtain ⟨hl1, hl2⟩ := frzArgs_sound hm hF hokc args 0 fargs nsF vs.toList hfz (fun n c g' h1 h2 h3 => .inr ⟨n, c, h1, h2, h3⟩) ⟨by simpa using hargs.1, fun j a x ha hx => hargs.2 j a x ha (by simpa using hx)⟩
      obtain ⟨hr1, hr2⟩ := mapAll_spec hren
      obtain ⟨hi1, hi2⟩ := inBlks_look hin
      have hβ0len : β0.length = σin.length := by simp [β0, hi1]
      have hblk0 : ∀ (i n : Nat), ns[i]? = some n → blockOf β0 i = blockOf β n := by
        intro i n hi
        unfold blockOf
        rw [hβ0 i n hi]
        rfl
      have hlook : ∀ n b, F n = some b → n ∈ ns → look n (hdels nsF σ) = some b := by
        intro n b h1 h2
        rw [look_hdels, if_neg (hdis n h2)]
        exact hF n b h1
      have hmem0 : Mem w β0 (okd ok β σ nsF) σin := by
        refine ⟨?_, ?_, ?_, hmc.oklt⟩
        · intro i b' hl
          obtain ⟨_, n, b, h1, h2, h3⟩ := hi2 i b' hl
          rw [Nat.sub_zero] at h1
          have hnn : n ∈ ns := List.mem_iff_getElem?.2 ⟨i, h1⟩
          have hix : idx n 0 ns = some i := by
            have key : ∀ (l : List Nat) (k i : Nat), l.Nodup → l[i]? = some n → idx n k l = some (k + i) := by
              intro l
              induction l with
              | nil => intro k i _ hh; simp at hh
              | cons m r ih =>
                intro k i hnd' hh
                cases i with
                | zero => simp at hh; subst hh; simp [idx, Nat.beq_refl]
                | succ i =>
                  have hh' : r[i]? = some n := by simpa using hh
                  have hne : n ≠ m := by
                    intro e
                    subst e
                    exact (List.nodup_cons.1 hnd').1 (List.mem_iff_getElem?.2 ⟨i, hh'⟩)
                  simp only [idx, beq_ne hne, cond_false]
                  rw [ih (k + 1) i (List.nodup_cons.1 hnd').2 hh']
                  congr 1
                  omega
            rw [key ns 0 i hnd h1, Nat.zero_add]
          exact renBlk_sound hsame0 hix h3 (hmc.blks n b (hlook n b h2 hnn))
        · intro i j c d g' hij h1 h2 hb1 hb2
          obtain ⟨_, n1, b1, e1, f1, _⟩ := hi2 i c h1
          obtain ⟨_, n2, b2, e2, f2, _⟩ := hi2 j d h2
          rw [Nat.sub_zero] at e1 e2
          rw [hblk0 i n1 e1] at hb1
          rw [hblk0 j n2 e2] at hb2
          refine hm.inj n1 n2 b1 b2 g' (fun e => ?_) (hF n1 b1 f1) (hF n2 b2 f2) hb1 hb2
          subst e
          have hil : i < ns.length := (List.getElem?_eq_some_iff.1 e1).1
          exact hij ((List.getElem?_inj hil hnd).1 (e1.trans e2.symm))
        · intro i c g' h1 hb1
          obtain ⟨_, n1, b1, e1, f1, _⟩ := hi2 i c h1
          rw [Nat.sub_zero] at e1
          rw [hblk0 i n1 e1] at hb1
          exact hmc.ro n1 b1 g' (hlook n1 b1 f1 (List.mem_iff_getElem?.2 ⟨i, e1⟩)) hb1
      have hlive : ∀ g', live β0 σin g' → ∃ n c, n ∈ ns ∧ look n σ = some c ∧ blockOf β n = some g' := by
        rintro g' ⟨i, c, h1, hb1⟩
        obtain ⟨_, n1, b1, e1, f1, _⟩ := hi2 i c h1
        rw [Nat.sub_zero] at e1
        rw [hblk0 i n1 e1] at hb1
        exact ⟨n1, b1, List.mem_iff_getElem?.2 ⟨i, e1⟩, hF n1 b1 f1, hb1⟩
      have hrep0 : ∀ (j : Nat) (a : AV) (x : Value), args'[j]? = some a → vs[j]? = some x → ARep w β0 (okd ok β σ nsF) a x := by
        intro j a x ha hx
        obtain ⟨a0, h1, h2⟩ := hr2 j a ha
        exact ren_sound hsame0 20 a0 a x h2 (hl2 j a0 x h1 (by simpa using hx))
      refine (hcall w β0 (okd ok β σ nsF) vs hβ0len (by rw [hr1, hl1]; simp) hrep0 hmem0).mono ?_
      rintro e w' ⟨x, β0', okc', rfl, c1, c2, c3, c4, c5, c6, c7⟩
      split at hback
      · rename_i v' σout' hv' hσ'
        obtain ⟨hkn, hback⟩ := bif_elim hback
        have hnmns : nm ∉ ns := by
          intro hnn
          obtain ⟨c, hc⟩ := hns nm hnn
          rw [not_look hm hn] at hc
          simp at hc
        have hback0 : ∀ i n, backN ns nm i = some n → (i < ns.length ∧ ns[i]? = some n) ∨ (i = ns.length ∧ n = nm) := by
          intro i n h
          unfold backN at h
          cases hb : Nat.blt i ns.length with
          | true => rw [hb] at h; exact .inl ⟨Nat.le_of_ble_eq_true hb, h⟩
          | false =>
            rw [hb] at h
            cases hc : Nat.beq i ns.length with
            | true => rw [hc] at h; simp at h; exact .inr ⟨beq_nat hc, h.symm⟩
            | false => rw [hc] at h; simp at h
        obtain ⟨β', hβ', hsame⟩ : ∃ β', (β' = β ∨ ∃ v, β' = β.set nm (some v)) ∧ Same β0' β' (backN ns nm) := by
          have low : ∀ (i n : Nat) (v : Value), ns[i]? = some n → β0'[i]? = some (some v) → β[n]? = some (some v) := by
            intro i n v h1 h2
            obtain ⟨y, hy⟩ := hget n (List.mem_iff_getElem?.2 ⟨i, h1⟩)
            have h3 := hβ0 i n h1
            rw [hy] at h3
            have h4 := c3 i y h3
            rw [h2] at h4
            injection h4 with h4
            injection h4 with h4
            subst h4
            exact hy
          cases hk : β0'[ns.length]? with
          | none =>
            refine ⟨β, .inl rfl, fun i n v h1 h2 => ?_⟩
            rcases hback0 i n h1 with ⟨h3, h4⟩ | ⟨h3, h4⟩
            · exact low i n v h4 h2
            · subst h3; rw [hk] at h2; simp at h2
          | some q =>
            cases q with
            | none =>
              refine ⟨β, .inl rfl, fun i n v h1 h2 => ?_⟩
              rcases hback0 i n h1 with ⟨h3, h4⟩ | ⟨h3, h4⟩
              · exact low i n v h4 h2
              · subst h3; rw [hk] at h2; simp at h2
            | some y =>
              refine ⟨β.set nm (some y), .inr ⟨y, rfl⟩, fun i n v h1 h2 => ?_⟩
              rcases hback0 i n h1 with ⟨h3, h4⟩ | ⟨h3, h4⟩
              · exact BExt.set y hn n v (low i n v h4 h2)
              · subst h3
                subst h4
                rw [hk] at h2
                injection h2 with h2
                injection h2 with h2
                subst h2
                exact get_set y hn
        have hrep := ren_sound hsame 20 v v' x hv' c1
        have hop := OpOK.call hm hn hns hdis hlive c2 c5 c4 c6 c7 hβ' hsame hkn hσ' (backN_inj hnd hnmns)
        by_cases hsc : (scal v' && ns.isEmpty) = true
        · rw [hsc] at hback
          rw [Bool.and_eq_true] at hsc
          have hns0 : ns = [] := by simpa using hsc.2
          have hfalse : ∀ g', live β0 σin g' → False := by
            intro g' hg'
            obtain ⟨n, c, h1, _⟩ := hlive g' hg'
            rw [hns0] at h1
            simp at h1
          exact ⟨x, v', .none, β, ok, rfl, hback, scal_rep hsc.1 hrep, OpOK.same hm (c5.mono (fun g' hg' => hfalse g' hg'))⟩
        · have hsc' : (scal v' && ns.isEmpty) = false := by simpa using hsc
          rw [hsc'] at hback
          exact ⟨x, v', _, β', okc', rfl, hback, hrep, hop⟩
      · exact hback.elim
    · exact h.elim
  · exact h.elim
end
end Go.AM
