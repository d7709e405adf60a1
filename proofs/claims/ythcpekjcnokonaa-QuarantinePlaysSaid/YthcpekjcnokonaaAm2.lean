/- The abstract state of a call, its updates, and what each update asks of memory. -/
import Derived.Test.YthcpekjcnokonaaAm1
namespace Go.AM

def hset (n : Nat) (c : Blk) : Heap → Heap
  | [] => [(n, c)]
  | (m, x) :: r => bif Nat.beq n m then (n, c) :: r else (m, x) :: hset n c r
def hdel (n : Nat) : Heap → Heap
  | [] => []
  | (m, x) :: r => bif Nat.beq n m then hdel n r else (m, x) :: hdel n r
def hdels : List Nat → Heap → Heap
  | [], σ => σ
  | n :: r, σ => hdels r (hdel n σ)
def tset {α : Type} (n : Nat) (c : α) : List (Nat × α) → List (Nat × α)
  | [] => [(n, c)]
  | (m, x) :: r => bif Nat.beq n m then (n, c) :: r else (m, x) :: tset n c r

theorem look_cons {α : Type} (n m : Nat) (x : α) (r : List (Nat × α)) : look n ((m, x) :: r) = if n = m then some x else look n r := by
  simp only [look]
  by_cases h : n = m
  · subst h; simp [Nat.beq_refl]
  · have : Nat.beq n m = false := by
      cases hb : Nat.beq n m with
      | false => rfl
      | true => exact absurd (Nat.eq_of_beq_eq_true hb) h
    simp [this, h]
theorem beq_ne {n m : Nat} (h : n ≠ m) : Nat.beq n m = false := by
  cases hb : Nat.beq n m with
  | false => rfl
  | true => exact absurd (Nat.eq_of_beq_eq_true hb) h

theorem look_tset {α : Type} (n k : Nat) (c : α) (t : List (Nat × α)) : look k (tset n c t) = if k = n then some c else look k t := by
  induction t with
  | nil => simp [tset, look_cons, look]
  | cons p r ih =>
    obtain ⟨m, x⟩ := p
    simp only [tset]
    by_cases h : n = m
    · subst h
      simp only [Nat.beq_refl, cond_true, look_cons]
      by_cases hk : k = n <;> simp [hk]
    · simp only [beq_ne h, cond_false, look_cons, ih]
      by_cases hk : k = m
      · subst hk; simp [Ne.symm h]
      · simp [hk]
theorem look_hset (n k : Nat) (c : Blk) (t : Heap) : look k (hset n c t) = if k = n then some c else look k t := by
  have : ∀ t : Heap, hset n c t = tset n c t := by
    intro t
    induction t with
    | nil => rfl
    | cons p r ih => obtain ⟨m, x⟩ := p; simp only [hset, tset, ih]
  rw [this, look_tset]
theorem look_hdel (n k : Nat) (t : Heap) : look k (hdel n t) = if k = n then none else look k t := by
  induction t with
  | nil => simp [hdel, look]
  | cons p r ih =>
    obtain ⟨m, x⟩ := p
    simp only [hdel]
    by_cases h : n = m
    · subst h
      simp only [Nat.beq_refl, cond_true, look_cons, ih]
      by_cases hk : k = n <;> simp [hk]
    · simp only [beq_ne h, cond_false, look_cons, ih]
      by_cases hk : k = m
      · subst hk; simp [Ne.symm h]
      · simp [hk]
theorem look_hdels (ns : List Nat) (k : Nat) (t : Heap) : look k (hdels ns t) = if k ∈ ns then none else look k t := by
  induction ns generalizing t with
  | nil => simp [hdels]
  | cons n r ih =>
    simp only [hdels, ih, look_hdel, List.mem_cons]
    by_cases h1 : k ∈ r
    · simp [h1]
    · by_cases h2 : k = n <;> simp [h1, h2]

/-- What an operation does to the live blocks: nothing; a new one (under the operation's own name); another content; a row that is appended to and goes on under the new name; blocks that are never written any more. -/
inductive Upd where
  | none
  | new (c : Blk)
  | put (n : Nat) (c : Blk)
  | app (n : Nat) (c : Blk)
  | del (ns : List Nat)
  | call (ns : List Nat) (bs : Heap)
def hsets : Heap → Heap → Heap
  | [], σ => σ
  | (n, c) :: r, σ => hsets r (hset n c σ)
def Upd.apply (nm : Nat) (σ : Heap) : Upd → Heap
  | .none => σ
  | .new c => hset nm c σ
  | .put n c => hset n c σ
  | .app n c => hset nm c (hdel n σ)
  | .del ns => hdels ns σ
  | .call ns bs => hsets bs (hdels ns σ)

/-- What an operation leaves. -/
structure OpOK (w : World) (β : Beta) (ok : Nat → Prop) (σ : Heap) (nm : Nat) (w' : World) (β' : Beta) (ok' : Nat → Prop) (u : Upd) : Prop where
  mem : Mem w' β' ok' (u.apply nm σ)
  ext : BExt β β'
  len : β'.length = β.length
  okm : ∀ g, ok g → ok' g
  fr : Fr (live β σ) w w'
  lv : ∀ g, live β' (u.apply nm σ) g → live β σ g ∨ w.heap.size ≤ g
  okn : ∀ g, ok' g → ok g ∨ live β σ g ∨ w.heap.size ≤ g
  res : ∀ m, m ≠ nm → β[m]? = some none → β'[m]? = some none

theorem Mem.okfr {w : World} {β : Beta} {ok : Nat → Prop} {σ : Heap} (h : Mem w β ok σ) {w' : World} (hf : Fr (live β σ) w w') : ∀ g, ok g → w'.heap[g]? = w.heap[g]? :=
  fun g hg => hf.block g (h.oklt g hg) (fun ⟨n, c, hl, hb⟩ => h.ro n c g hl hb hg)

theorem OpOK.arep {w w' : World} {β β' : Beta} {ok ok' : Nat → Prop} {σ : Heap} {nm : Nat} {u : Upd} (h : OpOK w β ok σ nm w' β' ok' u) (hm : Mem w β ok σ) {a : AV} {v : Value}
    (hr : ARep w β ok a v) : ARep w' β' ok' a v := hr.mono (hm.okfr h.fr) h.okm h.ext

/-- Nothing but a draw. -/
theorem OpOK.quiet {w w' : World} {β : Beta} {ok : Nat → Prop} {σ : Heap} {nm : Nat} (hm : Mem w β ok σ) (hh : w'.heap = w.heap) (h1 : w'.os = w.os) (h2 : w'.tape = w.tape) (h3 : w'.output = w.output) :
    OpOK w β ok σ nm w' β ok .none where
  mem := ⟨fun n c hc => (hm.blks n c hc).mono (fun g _ => by rw [hh]) (fun _ h => h) (.refl _) (fun g _ => by rw [hh]), hm.inj, hm.ro, fun g hg => by rw [hh]; exact hm.oklt g hg⟩
  ext := .refl _
  len := rfl
  okm := fun _ h => h
  fr := ⟨h1, h2, h3, by rw [hh]; exact Nat.le_refl _, fun g _ _ => by rw [hh]⟩
  lv := fun g h => .inl h
  okn := fun g h => .inl h
  res := fun m _ h => h

theorem BExt.set {β : Beta} {nm : Nat} (v : Value) (hr : β[nm]? = some none) : BExt β (β.set nm (some v)) := by
  intro n x h
  by_cases e : n = nm
  · subst e; rw [hr] at h; simp at h
  · rw [List.getElem?_set_ne (Ne.symm e)]; exact h
theorem get_set {β : Beta} {nm : Nat} (v : Value) (hr : β[nm]? = some none) : (β.set nm (some v))[nm]? = some (some v) := by
  have : nm < β.length := (List.getElem?_eq_some_iff.1 hr).1
  simp [this]
theorem get_set_ne {β : Beta} {nm m : Nat} (v : Value) (h : m ≠ nm) : (β.set nm (some v))[m]? = β[m]? := List.getElem?_set_ne (Ne.symm h)
theorem blockOf_set_ne {β : Beta} {nm m : Nat} (v : Value) (h : m ≠ nm) : blockOf (β.set nm (some v)) m = blockOf β m := by
  unfold blockOf; rw [get_set_ne v h]
theorem blockOf_none {β : Beta} {nm : Nat} (hr : β[nm]? = some none) : blockOf β nm = none := by simp [blockOf, hr]
theorem not_look {w : World} {β : Beta} {ok : Nat → Prop} {σ : Heap} {nm : Nat} (hm : Mem w β ok σ) (hr : β[nm]? = some none) : look nm σ = none := by
  cases h : look nm σ with
  | none => rfl
  | some c =>
    obtain ⟨⟨v, hv⟩, _⟩ := (hm.blks nm c h).block
    rw [hr] at hv; simp at hv

/-- A new block. -/
theorem OpOK.new {w : World} {β : Beta} {ok : Nat → Prop} {σ : Heap} {nm : Nat} (hm : Mem w β ok σ) (hr : β[nm]? = some none) {w' : World} {v : Value} {c : Blk} (hf : Fr (fun _ => False) w w')
    (hbk : ∀ g, bk v = some g → w.heap.size ≤ g) (hg : GoodBlk w' (β.set nm (some v)) ok nm c) : OpOK w β ok σ nm w' (β.set nm (some v)) ok (.new c) := by
  have hsz := hf.size
  have hold : ∀ g, g < w.heap.size → w'.heap[g]? = w.heap[g]? := fun g h => hf.block g h id
  have hnb : blockOf (β.set nm (some v)) nm = bk v := blockOf_some (get_set v hr)
  have hext := BExt.set v hr
  have hnl := not_look hm hr
  have hgood : ∀ n c', look n σ = some c' → GoodBlk w' (β.set nm (some v)) ok n c' := fun n c' h =>
    (hm.blks n c' h).mono (fun g hg => hold g (hm.oklt g hg)) (fun _ h => h) hext (fun g hg => hold g ((hm.blks n c' h).block.2 g hg))
  have hne : ∀ n c', look n σ = some c' → n ≠ nm := fun n c' h e => by rw [e, hnl] at h; simp at h
  refine ⟨⟨?_, ?_, ?_, ?_⟩, hext, by simp, fun _ h => h, hf.mono (fun _ h => h.elim), ?_, fun g h => .inl h, fun m h hh => by rw [get_set_ne v h]; exact hh⟩
  · intro n c' h
    simp only [Upd.apply, look_hset] at h
    by_cases e : n = nm
    · subst e; simp at h; subst h; exact hg
    · simp [e] at h; exact hgood n c' h
  · intro n m c1 c2 g hnm h1 h2 hb hb2
    simp only [Upd.apply, look_hset] at h1 h2
    by_cases e1 : n = nm
    · subst e1
      rw [hnb] at hb
      have hgs := hbk g hb
      simp [Ne.symm hnm] at h2
      rw [blockOf_set_ne v (Ne.symm hnm)] at hb2
      have := (hm.blks m c2 h2).block.2 g hb2
      omega
    · simp [e1] at h1
      rw [blockOf_set_ne v e1] at hb
      by_cases e2 : m = nm
      · subst e2
        rw [hnb] at hb2
        have hgs := hbk g hb2
        have := (hm.blks n c1 h1).block.2 g hb
        omega
      · simp [e2] at h2
        rw [blockOf_set_ne v e2] at hb2
        exact hm.inj n m c1 c2 g hnm h1 h2 hb hb2
  · intro n c' g h hb hok
    simp only [Upd.apply, look_hset] at h
    by_cases e : n = nm
    · subst e
      rw [hnb] at hb
      have := hbk g hb
      have := hm.oklt g hok
      omega
    · simp [e] at h
      rw [blockOf_set_ne v e] at hb
      exact hm.ro n c' g h hb hok
  · intro g hok
    have := hm.oklt g hok
    omega
  · rintro g ⟨n, c', h, hb⟩
    simp only [Upd.apply, look_hset] at h
    by_cases e : n = nm
    · subst e
      rw [hnb] at hb
      have := hbk g hb
      exact .inr (by omega)
    · simp [e] at h
      rw [blockOf_set_ne v e] at hb
      exact .inl ⟨n, c', h, hb⟩

theorem Fr.alloc (w : World) (o : Obj) : Fr (fun _ => False) w (w.alloc o) := ⟨rfl, rfl, rfl, by rw [World.size_alloc]; omega, fun g h _ => heap_alloc_old w o g h⟩

/-- Another content of a live block. -/
theorem OpOK.put {w w' : World} {β : Beta} {ok : Nat → Prop} {σ : Heap} {nm n : Nat} {c0 c : Blk} (hm : Mem w β ok σ) (hl : look n σ = some c0)
    (hf : Fr (fun g => blockOf β n = some g) w w') (hg : GoodBlk w' β ok n c) : OpOK w β ok σ nm w' β ok (.put n c) := by
  have hin : ∀ g, blockOf β n = some g → live β σ g := fun g h => ⟨n, c0, hl, h⟩
  have hfr : Fr (live β σ) w w' := hf.mono hin
  have hok := hm.okfr hfr
  refine ⟨⟨?_, ?_, ?_, fun g h => Nat.lt_of_lt_of_le (hm.oklt g h) hf.size⟩, .refl _, rfl, fun _ h => h, hfr, ?_, fun g h => .inl h, fun m _ h => h⟩
  · intro m c' h
    simp only [Upd.apply, look_hset] at h
    by_cases e : m = n
    · subst e; simp at h; subst h; exact hg
    · simp [e] at h
      exact (hm.blks m c' h).mono hok (fun _ h => h) (.refl _) (fun g hb => hf.block g ((hm.blks m c' h).block.2 g hb) (fun hbn => hm.inj m n c' c0 g e h hl hb hbn))
  · intro a b c1 c2 g hab h1 h2 hb
    simp only [Upd.apply, look_hset] at h1 h2
    have h1' : ∃ d, look a σ = some d := by
      by_cases e : a = n
      · subst e; exact ⟨_, hl⟩
      · simp [e] at h1; exact ⟨_, h1⟩
    have h2' : ∃ d, look b σ = some d := by
      by_cases e : b = n
      · subst e; exact ⟨_, hl⟩
      · simp [e] at h2; exact ⟨_, h2⟩
    obtain ⟨d1, h1'⟩ := h1'
    obtain ⟨d2, h2'⟩ := h2'
    exact hm.inj a b d1 d2 g hab h1' h2' hb
  · intro a c1 g h hb
    simp only [Upd.apply, look_hset] at h
    by_cases e : a = n
    · subst e; exact hm.ro a c0 g hl hb
    · simp [e] at h; exact hm.ro a c1 g h hb
  · rintro g ⟨a, c1, h, hb⟩
    simp only [Upd.apply, look_hset] at h
    by_cases e : a = n
    · subst e; exact .inl ⟨a, c0, hl, hb⟩
    · simp [e] at h; exact .inl ⟨a, c1, h, hb⟩

/-- Blocks that nobody writes any more. -/
theorem OpOK.del {w : World} {β : Beta} {ok : Nat → Prop} {σ : Heap} {nm : Nat} (ns : List Nat) (hm : Mem w β ok σ) :
    OpOK w β ok σ nm w β (fun g => ok g ∨ ∃ n c, n ∈ ns ∧ look n σ = some c ∧ blockOf β n = some g) (.del ns) := by
  have hlk : ∀ n c, look n (hdels ns σ) = some c → look n σ = some c ∧ n ∉ ns := by
    intro n c h
    rw [look_hdels] at h
    by_cases e : n ∈ ns
    · simp [e] at h
    · simp [e] at h; exact ⟨h, e⟩
  refine ⟨⟨?_, ?_, ?_, ?_⟩, .refl _, rfl, fun _ h => .inl h, .refl _ _, ?_, ?_, fun m _ h => h⟩
  · intro n c h
    exact (hm.blks n c (hlk n c h).1).mono (fun _ _ => rfl) (fun _ h => .inl h) (.refl _) (fun _ _ => rfl)
  · intro n m c d g hnm h1 h2 hb
    exact hm.inj n m c d g hnm (hlk n c h1).1 (hlk m d h2).1 hb
  · rintro n c g h hb (hok | ⟨m, d, hmm, hl, hbm⟩)
    · exact hm.ro n c g (hlk n c h).1 hb hok
    · by_cases e : n = m
      · subst e; exact (hlk n c h).2 hmm
      · exact hm.inj n m c d g e (hlk n c h).1 hl hb hbm
  · rintro g (hok | ⟨m, d, hmm, hl, hbm⟩)
    · exact hm.oklt g hok
    · exact (hm.blks m d hl).block.2 g hbm
  · rintro g ⟨n, c, h, hb⟩
    exact .inl ⟨n, c, (hlk n c h).1, hb⟩
  · rintro g (hok | ⟨m, d, hmm, hl, hbm⟩)
    · exact .inl hok
    · exact .inr (.inl ⟨m, d, hl, hbm⟩)

/-- A row that is appended to: it goes on under the new name. -/
theorem OpOK.app {w w' : World} {β : Beta} {ok : Nat → Prop} {σ : Heap} {nm n : Nat} {c0 c : Blk} {v : Value} (hm : Mem w β ok σ) (hr : β[nm]? = some none) (hl : look n σ = some c0)
    (hf : Fr (fun g => blockOf β n = some g) w w') (hbk : ∀ g, bk v = some g → blockOf β n = some g ∨ w.heap.size ≤ g) (hg : GoodBlk w' (β.set nm (some v)) ok nm c) :
    OpOK w β ok σ nm w' (β.set nm (some v)) ok (.app n c) := by
  have hin : ∀ g, blockOf β n = some g → live β σ g := fun g h => ⟨n, c0, hl, h⟩
  have hfr : Fr (live β σ) w w' := hf.mono hin
  have hok := hm.okfr hfr
  have hext := BExt.set v hr
  have hnb : blockOf (β.set nm (some v)) nm = bk v := blockOf_some (get_set v hr)
  have hlk : ∀ a d, look a ((Upd.app n c).apply nm σ) = some d → (a = nm ∧ d = c) ∨ (a ≠ nm ∧ a ≠ n ∧ look a σ = some d) := by
    intro a d h
    simp only [Upd.apply, look_hset, look_hdel] at h
    by_cases e : a = nm
    · simp [e] at h; exact .inl ⟨e, h.symm⟩
    · by_cases e2 : a = n
      · subst e2; simp [e] at h
      · simp [e, e2] at h; exact .inr ⟨e, e2, h⟩
  have hfar : ∀ a d g, a ≠ n → look a σ = some d → blockOf β a = some g → bk v ≠ some g := by
    intro a d g e h hb hv
    rcases hbk g hv with h2 | h2
    · exact hm.inj a n d c0 g e h hl hb h2
    · have := (hm.blks a d h).block.2 g hb; omega
  refine ⟨⟨?_, ?_, ?_, fun g h => Nat.lt_of_lt_of_le (hm.oklt g h) hf.size⟩, hext, by simp, fun _ h => h, hfr, ?_, fun g h => .inl h, fun m h hh => by rw [get_set_ne v h]; exact hh⟩
  · intro a d h
    rcases hlk a d h with ⟨rfl, rfl⟩ | ⟨e, e2, h⟩
    · exact hg
    · exact (hm.blks a d h).mono hok (fun _ h => h) hext (fun g hb => hf.block g ((hm.blks a d h).block.2 g hb) (fun hbn => hm.inj a n d c0 g e2 h hl hb hbn))
  · intro a b c1 c2 g hab h1 h2 hb hb2
    rcases hlk a c1 h1 with ⟨rfl, rfl⟩ | ⟨e, e2, k1⟩
    · rcases hlk b c2 h2 with ⟨rfl, rfl⟩ | ⟨e, e2, k2⟩
      · exact hab rfl
      · rw [hnb] at hb
        rw [blockOf_set_ne v e] at hb2
        exact hfar b c2 g e2 k2 hb2 hb
    · rw [blockOf_set_ne v e] at hb
      rcases hlk b c2 h2 with ⟨rfl, rfl⟩ | ⟨e', e2', k2⟩
      · rw [hnb] at hb2
        exact hfar a c1 g e2 k1 hb hb2
      · rw [blockOf_set_ne v e'] at hb2
        exact hm.inj a b c1 c2 g hab k1 k2 hb hb2
  · intro a d g h hb hokg
    rcases hlk a d h with ⟨rfl, rfl⟩ | ⟨e, e2, h⟩
    · rw [hnb] at hb
      rcases hbk g hb with h2 | h2
      · exact hm.ro n c0 g hl h2 hokg
      · have := hm.oklt g hokg; omega
    · rw [blockOf_set_ne v e] at hb
      exact hm.ro a d g h hb hokg
  · rintro g ⟨a, d, h, hb⟩
    rcases hlk a d h with ⟨rfl, rfl⟩ | ⟨e, e2, h⟩
    · rw [hnb] at hb
      rcases hbk g hb with h2 | h2
      · exact .inl (hin g h2)
      · exact .inr h2
    · rw [blockOf_set_ne v e] at hb
      exact .inl ⟨a, d, h, hb⟩

end Go.AM
