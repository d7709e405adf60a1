/- The operations of a Go function on abstract values: loads, stores, addresses, numbers. -/
import Derived.Test.YthcpekjcnokonaaAm2
import Derived.WalkKit
import Derived.Laws.StructEq
import Derived.Laws.MakeOwn
namespace Go.AM

def sizeT (P : Program) (t : TypeId) : Option Nat := (P.info? t).map (·.size)
def aggT (P : Program) (t : TypeId) : Option Bool := (P.underlying t).map fun | .struct _ | .array _ _ => true | _ => false
def fieldT (P : Program) (s : TypeId) (f : Nat) : Option (Nat × TypeId) :=
  match P.underlying s with
  | some (.struct fs) => (fs[f]?).map fun x => (x.offset, x.type)
  | _ => none
def elemT (P : Program) (t : TypeId) : Option TypeId :=
  match P.underlying t with
  | some (.slice e) => some e
  | _ => none

def ofConst : Value → Option AV
  | .bool b => some (.b b)
  | .int k n => some (.i k n)
  | .string s => some (.s s)
  | .slice none 0 0 => some .nil
  | .pointer none => some .np
  | .nilFunc => some .nf
  | _ => none
def ofConsts : List Value → Option (List AV)
  | [] => some []
  | v :: r => match ofConst v, ofConsts r with
    | some a, some l => some (a :: l)
    | _, _ => none
def zeroCells (P : Program) (t : TypeId) : Option (List AV) :=
  match P.info? t with
  | some i => match i.zero with
    | some z => ofConsts z.cells.toList
    | none => none
  | none => none

def cellsOf : AV → Option (List AV)
  | .ag cs => some cs
  | .tup _ => none
  | .u => none
  | v => some [v]
def ofCells (ag : Bool) (cs : List AV) : Option AV :=
  bif ag then some (.ag cs) else match cs with
    | [v] => some v
    | _ => none
def pureV : AV → Bool
  | .b _ | .i _ _ | .s _ | .sl _ | .nil | .pp _ | .np | .nf => true
  | _ => false
def splice {α : Type} (l : List α) (off : Nat) (cs : List α) : List α := l.take off ++ cs ++ l.drop (off + cs.length)

/-! ### What there is of a value of a type -/
def exCell (d : TypeDesc) (K : AV → Prop) : Prop :=
  match d with
  | .bool => ∃ x, K (.b x)
  | .int k => ∃ n, K (.i k n)
  | .string => ∃ x, K (.s x)
  | .slice _ => ∃ xs, K (.sl xs)
  | _ => ∃ v, K v
def exFields (X : TypeId → (List AV → Prop) → Prop) : List Field → (List AV → Prop) → Prop
  | [], K => K []
  | f :: r, K => X f.type fun cs => exFields X r fun cs' => K (cs ++ cs')
def exCells (P : Program) : Nat → TypeId → (List AV → Prop) → Prop
  | 0, _, _ => False
  | n + 1, t, K =>
    match P.underlying t with
    | some (.struct fs) => exFields (exCells P n) fs.toList K
    | some d => exCell d fun v => K [v]
    | none => False
theorem exCell_ex {d : TypeDesc} {K : AV → Prop} (h : exCell d K) : ∃ v, K v := by
  unfold exCell at h
  split at h <;> exact ⟨_, h.choose_spec⟩
theorem exFields_ex {X : TypeId → (List AV → Prop) → Prop} (hX : ∀ t K, X t K → ∃ cs, K cs) : ∀ (fs : List Field) (K : List AV → Prop), exFields X fs K → ∃ cs, K cs
  | [], K, h => ⟨[], h⟩
  | f :: r, K, h => by
    obtain ⟨cs, h⟩ := hX _ _ h
    obtain ⟨cs', h⟩ := exFields_ex hX r _ h
    exact ⟨_, h⟩
theorem exCells_ex {P : Program} : ∀ (n : Nat) (t : TypeId) (K : List AV → Prop), exCells P n t K → ∃ cs, K cs
  | 0, _, _, h => h.elim
  | n + 1, t, K, h => by
    unfold exCells at h
    split at h
    · exact exFields_ex (fun t K => exCells_ex n t K) _ _ h
    · obtain ⟨v, h⟩ := exCell_ex h; exact ⟨_, h⟩
    · exact h.elim

/-! ### Representation of what is made -/
theorem ofConst_rep {w : World} {ok : Nat → Prop} {v : Value} {a : AV} (h : ofConst v = some a) : PRep w ok a v ∧ v.oneCell' = true := by
  unfold ofConst at h
  split at h <;> first | (injection h with h; subst h; exact ⟨by constructor, rfl⟩) | (simp at h)
theorem ofConsts_rep {w : World} {ok : Nat → Prop} : ∀ {l : List Value} {as : List AV}, ofConsts l = some as →
    as.length = l.length ∧ ∀ (j : Nat) (a : AV) (v : Value), as[j]? = some a → l[j]? = some v → PRep w ok a v ∧ v.oneCell' = true
  | [], as, h => by simp [ofConsts] at h; subst h; simp
  | v :: r, as, h => by
    unfold ofConsts at h
    split at h
    · rename_i a l h1 h2
      injection h with h
      subst h
      obtain ⟨hl, hr⟩ := ofConsts_rep (w := w) (ok := ok) h2
      refine ⟨by simp [hl], fun j b x hb hx => ?_⟩
      cases j with
      | zero => simp at hb hx; subst hb; subst hx; exact ofConst_rep h1
      | succ j => simp at hb hx; exact hr j b x hb hx
    · simp at h

theorem ARep.one {w : World} {β : Beta} {ok : Nat → Prop} {a : AV} {v : Value} (h : ARep w β ok a v) (hc : cellsOf a = some [a]) : v.oneCell' = true := by
  cases h with
  | u v => simp [cellsOf] at hc
  | p h =>
    cases h with
    | ag l h1 r =>
      simp only [cellsOf, Option.some.injEq] at hc
      rename_i cs V
      have := congrArg SizeOf.sizeOf hc
      simp at this
      omega
    | _ => rfl
  | ag l h1 r =>
    simp only [cellsOf, Option.some.injEq] at hc
    rename_i cs V
    have := congrArg SizeOf.sizeOf hc
    simp at this
    omega
  | tup l r => simp [cellsOf] at hc
  | _ => rfl

/-- The cells of a value. -/
theorem cellsOf_rep {w : World} {β : Beta} {ok : Nat → Prop} {a : AV} {v : Value} {cs : List AV} (h : ARep w β ok a v) (hc : cellsOf a = some cs) :
    cs.length = v.cells.size ∧ ∀ (j : Nat) (y : AV) (x : Value), cs[j]? = some y → v.cells[j]? = some x → x.oneCell' = true ∧ ARep w β ok y x := by
  have single : cellsOf a = some [a] → v.oneCell' = true → cs = [a] → cs.length = v.cells.size ∧ ∀ (j : Nat) (y : AV) (x : Value), cs[j]? = some y → v.cells[j]? = some x → x.oneCell' = true ∧ ARep w β ok y x := by
    intro h1 h2 h3
    subst h3
    have hv : v.cells = #[v] := by cases v <;> first | rfl | (simp [Value.oneCell'] at h2)
    rw [hv]
    refine ⟨rfl, fun j y x hy hx => ?_⟩
    cases j with
    | zero => simp at hy hx; subst hy; subst hx; exact ⟨h2, h⟩
    | succ j => simp at hy
  cases a with
  | ag l =>
    simp only [cellsOf, Option.some.injEq] at hc
    subst hc
    cases h with
    | p h => cases h with | ag l h1 r => exact ⟨l, fun j y x hy hx => ⟨h1 j x hx, .p (r j y x hy hx)⟩⟩
    | ag l h1 r => exact ⟨l, fun j y x hy hx => ⟨h1 j x hx, r j y x hy hx⟩⟩
  | tup l => simp [cellsOf] at hc
  | u => simp [cellsOf] at hc
  | _ => exact single rfl (h.one rfl) (by simpa [cellsOf] using hc.symm)

theorem ofCells_rep {w : World} {β : Beta} {ok : Nat → Prop} {ag : Bool} {cs : List AV} {v : AV} {sz : Nat} {g : Nat → Value} (h : ofCells ag cs = some v) (hl : cs.length = sz)
    (hr : ∀ (j : Nat) (y : AV), cs[j]? = some y → (g j).oneCell' = true ∧ ARep w β ok y (g j)) :
    (ag = false → sz = 1) ∧ ARep w β ok v (if ag = true then .agg ((List.range sz).map g).toArray else g 0) := by
  cases ag with
  | true =>
    simp only [ofCells, cond_true, Option.some.injEq] at h
    subst h
    refine ⟨by simp, ?_⟩
    simp only [if_true]
    have key : ∀ (j : Nat) (x : Value), ((List.range sz).map g).toArray[j]? = some x → j < sz ∧ x = g j := by
      intro j x hx
      simp only [List.getElem?_toArray, List.getElem?_map] at hx
      by_cases hj : j < sz
      · rw [List.getElem?_range hj] at hx
        simp at hx
        exact ⟨hj, hx.symm⟩
      · rw [List.getElem?_eq_none (by simpa using hj)] at hx
        simp at hx
    refine .ag (by simp [hl]) (fun j x hx => ?_) (fun j y x hy hx => ?_)
    · obtain ⟨hj, rfl⟩ := key j x hx
      have : cs[j]? = some cs[j] := List.getElem?_eq_getElem (by omega)
      exact (hr j _ this).1
    · obtain ⟨hj, rfl⟩ := key j x hx
      exact (hr j y hy).2
  | false =>
    simp only [ofCells, cond_false] at h
    split at h
    · injection h with h
      subst h
      exact ⟨fun _ => by simpa using hl.symm, by simpa using (hr 0 _ rfl).2⟩
    · simp at h

theorem pure_rep {w : World} {β : Beta} {ok : Nat → Prop} {a : AV} {v : Value} (h : ARep w β ok a v) (hp : pureV a = true) : PRep w ok a v ∧ v.oneCell' = true := by
  cases h with
  | p h => cases h <;> first | exact ⟨by constructor <;> assumption, rfl⟩ | (simp [pureV] at hp) | skip
  | _ => simp [pureV] at hp

/-! ### Loads -/
theorem run_sizeOf {P : Program} (w : World) {t : TypeId} {sz : Nat} (h : sizeT P t = some sz) : (Go.sizeOf t).run P w = .ok sz w := by
  unfold sizeT at h
  obtain ⟨i, hi, rfl⟩ := Option.map_eq_some_iff.1 h
  simp [Go.sizeOf, typeInfo, hi]
theorem run_isAgg {P : Program} (w : World) {t : TypeId} {ag : Bool} (h : aggT P t = some ag) : (isAgg t).run P w = .ok ag w := by
  unfold aggT at h
  obtain ⟨d, hd, rfl⟩ := Option.map_eq_some_iff.1 h
  cases d <;> simp [isAgg, run_underlying hd]
theorem run_loadVar_g {P : Program} (w : World) {t : TypeId} {sz : Nat} {ag : Bool} (ad : Addr) (g : Nat → Value) (h1 : sizeT P t = some sz) (h2 : aggT P t = some ag) (h0 : ag = false → sz = 1)
    (hc : ∀ j, j < sz → w.cell? (ad.add j) = some (g j)) : (loadVar t ad).run P w = .ok (if ag = true then .agg ((List.range sz).map g).toArray else g 0) w := by
  unfold loadVar
  simp only [Sem.run_bind, run_isAgg w h2, Result.andThen_ok]
  cases ag with
  | true => simp [run_sizeOf w h1, run_loadCells w ad sz g hc]
  | false =>
    have := h0 rfl
    subst this
    have h := hc 0 (by omega)
    simp only [Addr.add, if_true] at h
    simp [run_load, h]

/-- The cells that lie at an address. -/
def CellsAt (w : World) (β : Beta) (ok : Nat → Prop) (ad : Addr) (cs : List AV) : Prop :=
  ∃ g : Nat → Value, (∀ j, j < cs.length → w.cell? (ad.add j) = some (g j)) ∧ ∀ (j : Nat) (y : AV), cs[j]? = some y → (g j).oneCell' = true ∧ ARep w β ok y (g j)

theorem add_add (a : Addr) (i j : Nat) : (a.add i).add j = a.add (i + j) := by
  unfold Addr.add
  by_cases hi : i = 0 <;> by_cases hj : j = 0 <;> simp [hi, hj, Nat.add_assoc]

theorem CellsAt.drop {w : World} {β : Beta} {ok : Nat → Prop} {ad : Addr} {cs : List AV} (h : CellsAt w β ok ad cs) (o : Nat) : CellsAt w β ok (ad.add o) (cs.drop o) := by
  obtain ⟨g, h1, h2⟩ := h
  refine ⟨fun j => g (o + j), fun j hj => ?_, fun j y hy => ?_⟩
  · rw [add_add]; exact h1 _ (by rw [List.length_drop] at hj; omega)
  · rw [List.getElem?_drop] at hy; exact h2 _ y hy
theorem CellsAt.take {w : World} {β : Beta} {ok : Nat → Prop} {ad : Addr} {cs : List AV} (h : CellsAt w β ok ad cs) (n : Nat) : CellsAt w β ok ad (cs.take n) := by
  obtain ⟨g, h1, h2⟩ := h
  refine ⟨g, fun j hj => h1 j (by rw [List.length_take] at hj; omega), fun j y hy => h2 j y ?_⟩
  rw [List.getElem?_take] at hy
  split at hy
  · exact hy
  · simp at hy

theorem pp_cells {w : World} {β : Beta} {ok : Nat → Prop} {cs : List AV} {x : Value} (h : ARep w β ok (.pp cs) x) : ∃ ad, x = .pointer (some ad) ∧ ok ad.block ∧ CellsAt w β ok ad cs ∧
    ∀ g : Nat → Value, (∀ j, j < cs.length → w.cell? (ad.add j) = some (g j)) → ∀ (j : Nat) (y : AV), cs[j]? = some y → PRep w ok y (g j) := by
  cases h with
  | p h => cases h with
    | pp g hok hcell h1 hr =>
      refine ⟨_, rfl, hok, ⟨g, hcell, fun j y hy => ⟨h1 j (List.getElem?_eq_some_iff.1 hy).1, .p (hr j y hy)⟩⟩, fun g' hg' j y hy => ?_⟩
      have hj := (List.getElem?_eq_some_iff.1 hy).1
      have e := (hg' j hj).symm.trans (hcell j hj)
      injection e with e
      rw [e]
      exact hr j y hy

theorem cells_cellsAt {w : World} {β : Beta} {ok : Nat → Prop} {n off : Nat} {cs : List AV} {x : Value} (hg : GoodBlk w β ok n (.cells cs)) (hx : ARep w β ok (.ptr n off) x) :
    ∃ ad, x = .pointer (some ad) ∧ CellsAt w β ok ad (cs.drop off) := by
  cases hx with
  | p h => cases h
  | ptr h =>
    rename_i g
    cases hg with
    | @cells _ g' arr T hb hh hl hr =>
      rw [h] at hb
      simp only [Option.some.injEq, Value.pointer.injEq, Addr.mk.injEq, and_true] at hb
      subst hb
      refine ⟨_, rfl, fun j => arr.getD (off + j) undef, fun j hj => ?_, fun j y hy => ?_⟩
      · rw [Addr.add_lit, cell_of_row w g (off + j) arr T (0, 0) hh]
        rw [List.length_drop] at hj
        have : off + j < arr.size := by omega
        simp [this]
      · rw [List.getElem?_drop] at hy
        have hj : off + j < arr.size := by have := (List.getElem?_eq_some_iff.1 hy).1; omega
        have := hr (off + j) y arr[off + j] hy (by simp [hj])
        simpa [Array.getD, hj] using this

theorem row_cellsAt {w : World} {β : Beta} {ok : Nat → Prop} {n e sz j off : Nat} {xs : List (List AV)} {el : List AV} {x : Value} (hg : GoodBlk w β ok n (.row e sz xs)) (hx : ARep w β ok (.eptr n sz j off) x) (he : xs[j]? = some el) :
    ∃ ad, x = .pointer (some ad) ∧ CellsAt w β ok ad (el.drop off) := by
  cases hx with
  | p h => cases h
  | eptr h =>
    rename_i g l c
    cases hg with
    | @row _ _ _ v cells hb ho hr =>
      rw [h] at hb
      simp only [Option.some.injEq] at hb
      subst hb
      obtain ⟨hw, hcells⟩ := hr j el he
      have hlen := ho.1
      have hjl : j < xs.length := (List.getElem?_eq_some_iff.1 he).1
      have hll : l = xs.length := by
        rcases ho.2 with ⟨e1, _⟩ | ⟨g', cap, cur, e1, _⟩
        · simp at e1
        · injection e1 with _ e2 _
      subst hll
      have hin : ∀ t, t < sz → j * sz + t < xs.length * sz := by
        intro t ht
        have : (j + 1) * sz ≤ xs.length * sz := Nat.mul_le_mul_right _ hjl
        rw [Nat.add_mul] at this
        omega
      refine ⟨_, rfl, fun t => cells.getD (j * sz + off + t) undef, fun t ht => ?_, fun t y hy => ?_⟩
      · rw [List.length_drop, hw] at ht
        have h1 := hin (off + t) (by omega)
        rw [Addr.add_lit, ho.cellAt _ (by rw [show j * sz + off + t = j * sz + (off + t) by omega]; exact h1)]
        simp [List.getD, show j * sz + off + t < cells.length by omega]
      · rw [List.getElem?_drop] at hy
        obtain ⟨c', h1, h2, h3⟩ := hcells (off + t) y hy
        rw [show j * sz + (off + t) = j * sz + off + t by omega] at h1
        simp only [List.getD, h1, Option.getD_some]
        exact ⟨h2, .p h3⟩

end Go.AM
