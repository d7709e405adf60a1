/- Abstract values of Go's data, what they say of memory, and how that is kept: for a verified evaluation of Go functions. -/
import Derived.Calls
import Derived.Laws.OwnMore
import Derived.RowKit3
namespace Go.AM

/-- Abstract values. The first ones are pure: nothing that may still be written lies behind them. The last ones refer by a name to a block that is still being written. -/
inductive AV where
  | u
  | b (x : Bool)
  | i (k : IntKind) (n : Int)
  | s (x : ByteArray)
  | sl (xs : List (List AV))
  | nil
  | pp (cs : List AV)
  | np
  | fn (f : Nat) (first caps : List AV)
  | nf
  | ag (cs : List AV)
  | tup (vs : List AV)
  | own (n : Nat)
  | row (n sz off len : Nat)
  | ptr (n off : Nat)
  | eptr (n sz j off : Nat)
  | mp (n : Nat)
  | fv (n sz off len cap : Nat)
  | sle

instance : Inhabited AV := ⟨.u⟩

/-- A pure value: 'ok' are the blocks that may lie behind it. -/
inductive PRep (w : World) (ok : Nat → Prop) : AV → Value → Prop where
  | b (x : Bool) : PRep w ok (.b x) (.bool x)
  | i (k : IntKind) (n : Int) : PRep w ok (.i k n) (.int k n)
  | s (x : ByteArray) : PRep w ok (.s x) (.string x)
  | nil : PRep w ok .nil (.slice none 0 0)
  | np : PRep w ok .np (.pointer none)
  | nf : PRep w ok .nf .nilFunc
  | sle (A : Addr) (c : Nat) : PRep w ok .sle (.slice (some A) 0 c)
  | sl {xs : List (List AV)} {A : Option Addr} {c : Nat} (sz : Nat) (g : Nat → Value) (hc : xs.length ≤ c) (hnil : A = none → c = 0)
      (hw : ∀ (j : Nat) (x : List AV), xs[j]? = some x → x.length = sz)
      (had : 0 < xs.length → ∃ ad, A = some ad ∧ ok ad.block ∧ ∀ t, t < xs.length * sz → w.cell? (ad.add t) = some (g t))
      (h1 : ∀ t, t < xs.length * sz → (g t).oneCell' = true)
      (hr : ∀ (j : Nat) (x : List AV) (t : Nat) (y : AV), xs[j]? = some x → x[t]? = some y → PRep w ok y (g (j * sz + t))) : PRep w ok (.sl xs) (.slice A xs.length c)
  | pp {cs : List AV} {ad : Addr} (g : Nat → Value) (hok : ok ad.block)
      (hcell : ∀ t, t < cs.length → w.cell? (ad.add t) = some (g t)) (h1 : ∀ t, t < cs.length → (g t).oneCell' = true)
      (hr : ∀ (t : Nat) (y : AV), cs[t]? = some y → PRep w ok y (g t)) : PRep w ok (.pp cs) (.pointer (some ad))
  | fn {f : Nat} {first caps : List AV} {F C : Array Value} (l1 : first.length = F.size) (l2 : caps.length = C.size)
      (r1 : ∀ (j : Nat) (a : AV) (v : Value), first[j]? = some a → F[j]? = some v → PRep w ok a v)
      (r2 : ∀ (j : Nat) (a : AV) (v : Value), caps[j]? = some a → C[j]? = some v → PRep w ok a v) : PRep w ok (.fn f first caps) (.func (.func f) F C)
  | ag {cs : List AV} {V : Array Value} (l : cs.length = V.size) (h1 : ∀ (j : Nat) (v : Value), V[j]? = some v → v.oneCell' = true)
      (r : ∀ (j : Nat) (a : AV) (v : Value), cs[j]? = some a → V[j]? = some v → PRep w ok a v) : PRep w ok (.ag cs) (.agg V)

theorem PRep.mono {w w' : World} {ok ok' : Nat → Prop} (hh : ∀ g, ok g → w'.heap[g]? = w.heap[g]?) (ho : ∀ g, ok g → ok' g) {a : AV} {v : Value} (h : PRep w ok a v) : PRep w' ok' a v := by
  induction h with
  | b x => exact .b x
  | i k n => exact .i k n
  | s x => exact .s x
  | nil => exact .nil
  | np => exact .np
  | nf => exact .nf
  | sle A c => exact .sle A c
  | sl sz g hc hnil hw had h1 hr ih =>
    refine .sl sz g hc hnil hw (fun h => ?_) h1 ih
    obtain ⟨ad, e, ho', hcell⟩ := had h
    refine ⟨ad, e, ho _ ho', fun t ht => ?_⟩
    rw [← hcell t ht]
    refine World.cell?_of_block ?_
    rw [show (ad.add t).block = ad.block by unfold Addr.add; split <;> rfl]
    exact hh _ ho'
  | pp g hok hcell h1 hr ih =>
    refine .pp g (ho _ hok) (fun t ht => ?_) h1 ih
    rw [← hcell t ht]
    refine World.cell?_of_block ?_
    rename_i cs ad
    rw [show (ad.add t).block = ad.block by unfold Addr.add; split <;> rfl]
    exact hh _ hok
  | fn l1 l2 r1 r2 i1 i2 => exact .fn l1 l2 i1 i2
  | ag l h1 r ih => exact .ag l h1 ih

/-- The live blocks by name: of each name the value that leads to it (a pointer to its first cell, a slice of the whole, a map). -/
abbrev Beta := List (Option Value)

/-- Any abstract value. -/
inductive ARep (w : World) (β : Beta) (ok : Nat → Prop) : AV → Value → Prop where
  | u (v : Value) : ARep w β ok .u v
  | p {a : AV} {v : Value} (h : PRep w ok a v) : ARep w β ok a v
  | fn {f : Nat} {first caps : List AV} {F C : Array Value} (l1 : first.length = F.size) (l2 : caps.length = C.size)
      (r1 : ∀ (j : Nat) (a : AV) (v : Value), first[j]? = some a → F[j]? = some v → ARep w β ok a v)
      (r2 : ∀ (j : Nat) (a : AV) (v : Value), caps[j]? = some a → C[j]? = some v → ARep w β ok a v) : ARep w β ok (.fn f first caps) (.func (.func f) F C)
  | ag {cs : List AV} {V : Array Value} (l : cs.length = V.size) (h1 : ∀ (j : Nat) (v : Value), V[j]? = some v → v.oneCell' = true)
      (r : ∀ (j : Nat) (a : AV) (v : Value), cs[j]? = some a → V[j]? = some v → ARep w β ok a v) : ARep w β ok (.ag cs) (.agg V)
  | tup {cs : List AV} {V : Array Value} (l : cs.length = V.size)
      (r : ∀ (j : Nat) (a : AV) (v : Value), cs[j]? = some a → V[j]? = some v → ARep w β ok a v) : ARep w β ok (.tup cs) (.tuple V)
  | own {n : Nat} {A : Option Addr} {l c : Nat} (h : β[n]? = some (some (.slice A l c))) : ARep w β ok (.own n) (.slice A l c)
  | row {n sz off len : Nat} {g l c c' : Nat} {A : Option Addr} (h : β[n]? = some (some (.slice (some ⟨g, 0, none⟩) l c))) (hc : len ≤ c') (hl : l ≤ off + c') (hin : off + len ≤ l)
      (ha : 0 < c' → A = some ⟨g, off * sz, none⟩) : ARep w β ok (.row n sz off len) (.slice A len c')
  | row0 {n sz off : Nat} {A : Option Addr} : ARep w β ok (.row n sz off 0) (.slice A 0 0)
  | ptr {n off g : Nat} (h : β[n]? = some (some (.pointer (some ⟨g, 0, none⟩)))) : ARep w β ok (.ptr n off) (.pointer (some ⟨g, off, none⟩))
  | eptr {n sz j off g l c : Nat} (h : β[n]? = some (some (.slice (some ⟨g, 0, none⟩) l c))) : ARep w β ok (.eptr n sz j off) (.pointer (some ⟨g, j * sz + off, none⟩))
  | mp {n r : Nat} (h : β[n]? = some (some (.map (some r)))) : ARep w β ok (.mp n) (.map (some r))
  | fv {n sz off len cap g l c : Nat} {A : Option Addr} (h : β[n]? = some (some (.slice (some ⟨g, 0, none⟩) l c))) (hc : len ≤ cap) (hin : off + cap ≤ c)
      (ha : 0 < cap → A = some ⟨g, off * sz, none⟩) : ARep w β ok (.fv n sz off len cap) (.slice A len cap)

/-- What is named stays named. -/
def BExt (β β' : Beta) : Prop := ∀ (n : Nat) (v : Value), β[n]? = some (some v) → β'[n]? = some (some v)
theorem BExt.refl (β : Beta) : BExt β β := fun _ _ h => h
theorem BExt.trans {a b c : Beta} (h : BExt a b) (k : BExt b c) : BExt a c := fun n v e => k n v (h n v e)

theorem ARep.mono {w w' : World} {β β' : Beta} {ok ok' : Nat → Prop} (hh : ∀ g, ok g → w'.heap[g]? = w.heap[g]?) (ho : ∀ g, ok g → ok' g) (hb : BExt β β')
    {a : AV} {v : Value} (h : ARep w β ok a v) : ARep w' β' ok' a v := by
  induction h with
  | u v => exact .u v
  | p h => exact .p (h.mono hh ho)
  | fn l1 l2 r1 r2 i1 i2 => exact .fn l1 l2 i1 i2
  | ag l h1 r ih => exact .ag l h1 ih
  | tup l r ih => exact .tup l ih
  | own h => exact .own (hb _ _ h)
  | row h hc hl hin ha => exact .row (hb _ _ h) hc hl hin ha
  | row0 => exact .row0
  | ptr h => exact .ptr (hb _ _ h)
  | eptr h => exact .eptr (hb _ _ h)
  | mp h => exact .mp (hb _ _ h)
  | fv h hc hin ha => exact .fv (hb _ _ h) hc hin ha

/-- The block that a value leads to. -/
def bk : Value → Option Nat
  | .slice (some a) _ _ => some a.block
  | .pointer (some a) => some a.block
  | .map (some r) => some r
  | _ => none
def blockOf (β : Beta) (n : Nat) : Option Nat := (β[n]?.join).bind bk
theorem blockOf_some {β : Beta} {n : Nat} {v : Value} (h : β[n]? = some (some v)) : blockOf β n = bk v := by simp [blockOf, h]

/-- What a live block holds: cells of a variable; a row of elements of type e, each of sz cells; the entries of a map; a row with its spare places (unknown cells are '.u'). -/
inductive Blk where
  | cells (cs : List AV)
  | row (e sz : Nat) (xs : List (List AV))
  | map (k : Nat) (es : List (AV × AV))
  | full (e sz : Nat) (xs : List (List AV))

def look {α : Type} (n : Nat) : List (Nat × α) → Option α
  | [] => none
  | (m, x) :: r => bif Nat.beq n m then some x else look n r

abbrev Heap := List (Nat × Blk)

/-- How the entries of a map stand in memory. -/
def MapRep (w : World) (ok : Nat → Prop) (es : List (AV × AV)) (ms : List MapEntry) : Prop :=
  es.length = ms.length ∧ ∀ (j : Nat) (a v : AV) (m : MapEntry), es[j]? = some (a, v) → ms[j]? = some m → PRep w ok a m.key ∧ PRep w ok v m.val

inductive GoodBlk (w : World) (β : Beta) (ok : Nat → Prop) (n : Nat) : Blk → Prop where
  | cells {cs : List AV} {g : Nat} {arr : Array Value} {T : TypeId} (hb : β[n]? = some (some (.pointer (some ⟨g, 0, none⟩))))
      (hh : w.heap[g]? = some (.cells arr T (0, 0))) (hl : arr.size = cs.length)
      (hr : ∀ (t : Nat) (y : AV) (v : Value), cs[t]? = some y → arr[t]? = some v → v.oneCell' = true ∧ ARep w β ok y v) : GoodBlk w β ok n (.cells cs)
  | row {e sz : Nat} {xs : List (List AV)} {v : Value} {cells : List Value} (hb : β[n]? = some (some v))
      (ho : w.ownsRow 0 e sz v xs.length cells)
      (hr : ∀ (j : Nat) (x : List AV), xs[j]? = some x → x.length = sz ∧ ∀ (t : Nat) (y : AV), x[t]? = some y → ∃ c, cells[j * sz + t]? = some c ∧ c.oneCell' = true ∧ PRep w ok y c) :
      GoodBlk w β ok n (.row e sz xs)
  | map {k : Nat} {es : List (AV × AV)} {r : Nat} {ms : Array MapEntry} {clock : Nat} (hb : β[n]? = some (some (.map (some r))))
      (hh : w.heap[r]? = some (.map ms clock)) (hm : MapRep w ok es ms.toList) : GoodBlk w β ok n (.map k es)
  | full {e sz : Nat} {xs : List (List AV)} {g l : Nat} {cur : Array Value} (hb : β[n]? = some (some (.slice (some ⟨g, 0, none⟩) l xs.length)))
      (hh : w.heap[g]? = some (.cells cur e (0, 0))) (hm : xs.length ≤ maxLen) (hs : cur.size = xs.length * sz)
      (hr : ∀ (j : Nat) (x : List AV), xs[j]? = some x → x.length = sz ∧ ∀ (t : Nat) (y : AV), x[t]? = some y → y = .u ∨ ∃ c, cur[j * sz + t]? = some c ∧ c.oneCell' = true ∧ PRep w ok y c) :
      GoodBlk w β ok n (.full e sz xs)

theorem own_move {w w1 : World} {base : Nat} {e : TypeId} {size n : Nat} {v : Value} {xs : List Value} (h : w.ownsRow base e size v n xs) (hm : ∀ k, bk v = some k → w1.heap[k]? = w.heap[k]?) : w1.ownsRow base e size v n xs := by
  obtain ⟨h1, h2⟩ := h
  refine ⟨h1, ?_⟩
  rcases h2 with h2 | ⟨g, cap, cur, rfl, hg, hh, r⟩
  · exact .inl h2
  · exact .inr ⟨g, cap, cur, rfl, hg, (hm g (by simp [bk])).trans hh, r⟩

theorem MapRep.mono {w w' : World} {ok ok' : Nat → Prop} (hh : ∀ g, ok g → w'.heap[g]? = w.heap[g]?) (ho : ∀ g, ok g → ok' g) {es : List (AV × AV)} {ms : List MapEntry}
    (h : MapRep w ok es ms) : MapRep w' ok' es ms :=
  ⟨h.1, fun j a v m h1 h2 => ⟨(h.2 j a v m h1 h2).1.mono hh ho, (h.2 j a v m h1 h2).2.mono hh ho⟩⟩

theorem GoodBlk.mono {w w' : World} {β β' : Beta} {ok ok' : Nat → Prop} {n : Nat} {k : Blk} (hh : ∀ g, ok g → w'.heap[g]? = w.heap[g]?) (ho : ∀ g, ok g → ok' g) (hb : BExt β β')
    (hg : ∀ g, blockOf β n = some g → w'.heap[g]? = w.heap[g]?) (h : GoodBlk w β ok n k) : GoodBlk w' β' ok' n k := by
  cases h with
  | cells h0 h1 hl hr => exact .cells (hb _ _ h0) ((hg _ (by rw [blockOf_some h0]; rfl)).trans h1) hl (fun t y v a b => ⟨(hr t y v a b).1, (hr t y v a b).2.mono hh ho hb⟩)
  | row h0 h1 hr =>
    refine .row (hb _ _ h0) (own_move h1 (fun k hk => hg k (by rw [blockOf_some h0]; exact hk))) (fun j x hx => ⟨(hr j x hx).1, fun t y hy => ?_⟩)
    obtain ⟨c, a, b, d⟩ := (hr j x hx).2 t y hy
    exact ⟨c, a, b, d.mono hh ho⟩
  | map h0 h1 hm => exact .map (hb _ _ h0) ((hg _ (by rw [blockOf_some h0]; rfl)).trans h1) (hm.mono hh ho)
  | full h0 h1 hm hs hr =>
    refine .full (hb _ _ h0) ((hg _ (by rw [blockOf_some h0]; rfl)).trans h1) hm hs (fun j x hx => ⟨(hr j x hx).1, fun t y hy => ?_⟩)
    rcases (hr j x hx).2 t y hy with h | ⟨c, a, b, d⟩
    · exact .inl h
    · exact .inr ⟨c, a, b, d.mono hh ho⟩

theorem GoodBlk.block {w : World} {β : Beta} {ok : Nat → Prop} {n : Nat} {k : Blk} (h : GoodBlk w β ok n k) : (∃ v, β[n]? = some (some v)) ∧ ∀ g, blockOf β n = some g → g < w.heap.size := by
  cases h with
  | cells h0 h1 hl hr =>
    refine ⟨⟨_, h0⟩, fun g hg => ?_⟩
    rw [blockOf_some h0] at hg
    injection hg with hg
    subst hg
    exact (Array.getElem?_eq_some_iff.1 h1).1
  | row h0 h1 hr =>
    refine ⟨⟨_, h0⟩, fun g hg => ?_⟩
    rw [blockOf_some h0] at hg
    rcases h1.2 with ⟨rfl, _⟩ | ⟨g', cap, cur, rfl, _, hh, _⟩
    · simp [bk] at hg
    · injection hg with hg
      subst hg
      exact (Array.getElem?_eq_some_iff.1 hh).1
  | map h0 h1 hm =>
    refine ⟨⟨_, h0⟩, fun g hg => ?_⟩
    rw [blockOf_some h0] at hg
    injection hg with hg
    subst hg
    exact (Array.getElem?_eq_some_iff.1 h1).1
  | full h0 h1 hm hs hr =>
    refine ⟨⟨_, h0⟩, fun g hg => ?_⟩
    rw [blockOf_some h0] at hg
    injection hg with hg
    subst hg
    exact (Array.getElem?_eq_some_iff.1 h1).1

/-- The live blocks: each as told, no two the same, none behind a pure value. -/
structure Mem (w : World) (β : Beta) (ok : Nat → Prop) (σ : Heap) : Prop where
  blks : ∀ n c, look n σ = some c → GoodBlk w β ok n c
  inj : ∀ n m c d g, n ≠ m → look n σ = some c → look m σ = some d → blockOf β n = some g → blockOf β m ≠ some g
  ro : ∀ n c g, look n σ = some c → blockOf β n = some g → ¬ ok g
  oklt : ∀ g, ok g → g < w.heap.size

def live (β : Beta) (σ : Heap) (g : Nat) : Prop := ∃ n c, look n σ = some c ∧ blockOf β n = some g

/-- What was there and is not in S is as it was. -/
structure Fr (S : Nat → Prop) (w w' : World) : Prop where
  os : w'.os = w.os
  tape : w'.tape = w.tape
  output : w'.output = w.output
  size : w.heap.size ≤ w'.heap.size
  block : ∀ g, g < w.heap.size → ¬ S g → w'.heap[g]? = w.heap[g]?
theorem Fr.refl (S : Nat → Prop) (w : World) : Fr S w w := ⟨rfl, rfl, rfl, Nat.le_refl _, fun _ _ _ => rfl⟩
theorem Fr.trans {S : Nat → Prop} {a b c : World} {S' : Nat → Prop} (h : Fr S a b) (k : Fr S' b c) (hs : ∀ g, S' g → S g ∨ a.heap.size ≤ g) : Fr S a c :=
  ⟨k.os.trans h.os, k.tape.trans h.tape, k.output.trans h.output, Nat.le_trans h.size k.size, fun g hg hn =>
    (k.block g (Nat.lt_of_lt_of_le hg h.size) (fun hc => (hs g hc).elim hn (fun hh => by omega))).trans (h.block g hg hn)⟩
theorem Fr.mono {S S' : Nat → Prop} {a b : World} (h : Fr S a b) (hs : ∀ g, S g → S' g) : Fr S' a b :=
  ⟨h.os, h.tape, h.output, h.size, fun g hg hn => h.block g hg (fun hc => hn (hs g hc))⟩

/-- What the call with these abstract arguments, over these live blocks, comes to. -/
def ACalls (P : Program) (f : Nat) (args : List AV) (σ : Heap) (v : AV) (σ' : Heap) : Prop :=
  ∀ (w : World) (β : Beta) (ok : Nat → Prop) (vs : Array Value), β.length = σ.length → args.length = vs.size →
    (∀ (j : Nat) (a : AV) (x : Value), args[j]? = some a → vs[j]? = some x → ARep w β ok a x) → Mem w β ok σ →
    Calls P f vs w fun e w' => ∃ x β' ok', e = .returned x ∧ ARep w' β' ok' v x ∧ Mem w' β' ok' σ' ∧ BExt β β' ∧ (∀ g, ok g → ok' g) ∧
      Fr (live β σ) w w' ∧ (∀ g, live β' σ' g → live β σ g ∨ w.heap.size ≤ g) ∧ (∀ g, ok' g → ok g ∨ live β σ g ∨ w.heap.size ≤ g)

end Go.AM
