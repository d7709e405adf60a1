/- What an operation gives does not hang on what is asked of it: its result and its update can be named. -/
import Derived.Test.YthcpekjcnokonaaAm14
set_option linter.unusedVariables false
set_option linter.unusedSimpArgs false
namespace Go.AM
open Go.RowKit
section
variable {P : Program} {nm : Nat} {F : Nat → Option Blk} {ρ : Env}

theorem exCells_mono {P : Program} {K K' : List AV → Prop} (hk : ∀ l, K l → K' l) : ∀ (n : Nat) (t : TypeId), exCells P n t K → exCells P n t K' := by
  intro n
  induction n generalizing K K' with
  | zero => intro t h; exact h.elim
  | succ n ih =>
    intro t h
    have many : ∀ (fs : List Field) (K K' : List AV → Prop), (∀ l, K l → K' l) → exFields (exCells P n) fs K → exFields (exCells P n) fs K' := by
      intro fs
      induction fs with
      | nil => intro K K' hk h; exact hk _ h
      | cons f r ihf =>
        intro K K' hk h
        exact ih (fun cs hh => ihf _ _ (fun l hl => hk _ hl) hh) f.type h
    unfold exCells at h ⊢
    split
    · rename_i fs hu
      rw [hu] at h
      exact many _ _ _ hk h
    · rename_i d hne hu
      rw [hu] at h
      have h' : exCell d fun v => K [v] := by
        split at h
        · rename_i fs e
          injection e with e
          exact absurd e (hne fs)
        · rename_i d' _ e
          injection e with e
          subst e
          exact h
        · rename_i e; simp at e
      unfold exCell at h' ⊢
      split at h' <;> exact ⟨_, hk _ h'.choose_spec⟩
    · rename_i hu
      rw [hu] at h
      exact h.elim

/-- Of all that may come, the one that comes. -/
theorem exCells_pick {P : Program} {n : Nat} {t : TypeId} {K : List AV → Prop} (h : exCells P n t K) : ∃ l, K l ∧ exCells P n t (fun l' => l' = l) := by
  have key : ∀ (n : Nat) (t : TypeId) (K : List AV → Prop), exCells P n t K → ∃ l, K l ∧ exCells P n t (fun l' => l' = l) := by
    intro n
    induction n with
    | zero => intro t K h; exact h.elim
    | succ n ih =>
      intro t K h
      have many : ∀ (fs : List Field) (K : List AV → Prop), exFields (exCells P n) fs K → ∃ l, K l ∧ exFields (exCells P n) fs (fun l' => l' = l) := by
        intro fs
        induction fs with
        | nil => intro K h; exact ⟨[], h, rfl⟩
        | cons f r ihf =>
          intro K h
          obtain ⟨cs, h1, h2⟩ := ih f.type _ h
          obtain ⟨l, h3, h4⟩ := ihf _ h1
          refine ⟨cs ++ l, h3, ?_⟩
          refine exCells_mono (fun cs' e => ?_) n f.type h2
          subst e
          have : ∀ (fs : List Field) (K K' : List AV → Prop), (∀ l, K l → K' l) → exFields (exCells P n) fs K → exFields (exCells P n) fs K' := by
            intro fs
            induction fs with
            | nil => intro K K' hk h; exact hk _ h
            | cons f r ihf =>
              intro K K' hk h
              exact exCells_mono (fun cs hh => ihf _ _ (fun l hl => hk _ hl) hh) n f.type h
          exact this r _ _ (fun l' e => by rw [e]) h4
      unfold exCells at h ⊢
      split at h
      · exact many _ _ h
      · rename_i d hne hu
        have : ∃ v, K [v] ∧ exCell d (fun v' => [v'] = [v]) := by
          unfold exCell at h ⊢
          split at h <;> exact ⟨_, h.choose_spec, h.choose, rfl⟩
        obtain ⟨v, h1, h2⟩ := this
        exact ⟨[v], h1, h2⟩
      · exact h.elim
  exact key n t K h

theorem loadK_pick {t : TypeId} {x : AV} {K : AV → Prop} (h : loadK P t F x K) : ∃ v, K v ∧ loadK P t F x (fun v' => v' = v) := by
  unfold loadK at *
  split at h
  · split at h
    · obtain ⟨h1, h⟩ := bif_elim h
      split at h
      · exact ⟨_, h, by simp [*]⟩
      · exact h.elim
    · split at h
      · obtain ⟨h1, h⟩ := bif_elim h
        split at h
        · exact ⟨_, h, by simp [*]⟩
        · exact h.elim
      · exact h.elim
    · split at h
      · obtain ⟨h1, h⟩ := bif_elim h
        obtain ⟨cs, ⟨hcs, h⟩, h2⟩ := exCells_pick h
        split at h
        · rename_i v hv
          refine ⟨_, h, ?_⟩
          simp only [*, cond_true]
          refine exCells_mono (fun l e => ?_) _ _ h2
          subst e
          exact ⟨hcs, by simp [hv]⟩
        · exact h.elim
      · exact h.elim
    · exact h.elim
  · exact h.elim

theorem storeK_pick {t : TypeId} {x y : AV} {K : Upd → Prop} (h : storeK P t F x y K) : ∃ v, K v ∧ storeK P t F x y (fun v' => v' = v) := by
  unfold storeK at *
  split at h
  · obtain ⟨h0, h⟩ := bif_elim h
    split at h
    · split at h
      · obtain ⟨h1, h⟩ := bif_elim h
        exact ⟨_, h, by simp [*]⟩
      · exact h.elim
    · split at h
      · obtain ⟨h1, el, h2, h3, h⟩ := bif_elim h
        exact ⟨_, h, by simp [*]⟩
      · exact h.elim
    · exact h.elim
  · exact h.elim

theorem indexAddrK_pick {t : TypeId} {x y : AV} {K : AV → Prop} (h : indexAddrK P t F x y K) : ∃ v, K v ∧ indexAddrK P t F x y (fun v' => v' = v) := by
  unfold indexAddrK at *
  split at h
  · rename_i e k i hu
    split at h
    · rename_i sz hsz
      split at h
      · rename_i xs
        obtain ⟨h0, h1, h⟩ := h
        obtain ⟨cs, ⟨h2, h3, h4⟩, h5⟩ := exCells_pick h
        refine ⟨_, h4, ?_⟩
        have h6 : exCells P 50 e (fun cs' => xs[i.toNat]? = some cs' ∧ cs'.length = sz ∧ AV.pp cs' = AV.pp cs) := exCells_mono (fun l e => by subst e; exact ⟨h2, h3, rfl⟩) _ _ h5
        clear h5 h2 h3
        simp only [hu, hsz]
        exact ⟨h0, h1, h6⟩
      · split at h
        · obtain ⟨h0, h1, h2, h⟩ := bif_elim h
          exact ⟨_, h, by simp [*]⟩
        · exact h.elim
      · obtain ⟨h0, h1, h2, h⟩ := bif_elim h
        exact ⟨_, h, by simp [*]⟩
      · exact h.elim
    · exact h.elim
  · exact h.elim

theorem lenK_pick {t : TypeId} {x : AV} {K : AV → Prop} (h : lenK P t F x K) : ∃ v, K v ∧ lenK P t F x (fun v' => v' = v) := by
  unfold lenK at *
  split at h
  · exact ⟨_, h, by simp [*]⟩
  · exact ⟨_, h, by simp [*]⟩
  · exact ⟨_, h, by simp [*]⟩
  · split at h
    · exact ⟨_, h, by simp [*]⟩
    · exact h.elim
  · exact ⟨_, h, by simp [*]⟩
  · exact h.elim

theorem boundK_pick {lo hi : Option AV} {len : Nat} {K : Nat → Nat → Prop} (h : boundK lo hi len K) : ∃ l h', K l h' ∧ boundK lo hi len (fun a b => a = l ∧ b = h') := by
  unfold boundK at *
  split at h
  · exact ⟨_, _, h, rfl, rfl⟩
  · exact ⟨_, _, h.2.2, h.1, h.2.1, rfl, rfl⟩
  · exact ⟨_, _, h.2.2, h.1, h.2.1, rfl, rfl⟩
  · exact ⟨_, _, h.2.2.2, h.1, h.2.1, h.2.2.1, rfl, rfl⟩
  · exact h.elim
theorem boundK_mono {lo hi : Option AV} {len : Nat} {K K' : Nat → Nat → Prop} (hk : ∀ a b, K a b → K' a b) (h : boundK lo hi len K) : boundK lo hi len K' := by
  unfold boundK at *
  split at h
  · exact hk _ _ h
  · exact ⟨h.1, h.2.1, hk _ _ h.2.2⟩
  · exact ⟨h.1, h.2.1, hk _ _ h.2.2⟩
  · exact ⟨h.1, h.2.1, h.2.2.1, hk _ _ h.2.2.2⟩
  · exact h.elim

theorem sliceK_pick {t : TypeId} {x : AV} {lo hi : Option AV} {K : AV → Prop} (h : sliceK P t F x lo hi K) : ∃ v, K v ∧ sliceK P t F x lo hi (fun v' => v' = v) := by
  unfold sliceK at *
  split at h
  · obtain ⟨l, h', h1, h2⟩ := boundK_pick h
    exact ⟨_, h1, by simp only [*]; exact boundK_mono (fun a b e => by rw [e.1, e.2]) h2⟩
  · split at h
    · obtain ⟨l, h', ⟨h0, h1⟩, h2⟩ := boundK_pick h
      exact ⟨_, h1, by simp only [*]; exact boundK_mono (fun a b e => ⟨h0, by rw [e.1, e.2]⟩) h2⟩
    · exact h.elim
  · split at h
    · obtain ⟨hb, h⟩ := bif_elim h
      obtain ⟨l, h', h1, h2⟩ := boundK_pick h
      exact ⟨_, h1, by simp only [*, cond_true]; exact boundK_mono (fun a b e => by rw [e.1, e.2]) h2⟩
    · exact h.elim
  · split at h
    · obtain ⟨hb, h⟩ := bif_elim h
      obtain ⟨l, h', h1, h2⟩ := boundK_pick h
      exact ⟨_, h1, by simp only [*, cond_true]; exact boundK_mono (fun a b e => by rw [e.1, e.2]) h2⟩
    · exact h.elim
  · exact h.elim

theorem intK_pick {op : BinOp} {k : IntKind} {x y : Int} {K : AV → Prop} (h : intK op k x y K) : ∃ v, K v ∧ intK op k x y (fun v' => v' = v) := by
  cases op <;> first
    | exact ⟨_, h, rfl⟩
    | exact ⟨_, h.2, h.1, rfl⟩
    | exact h.elim
theorem strK_pick {op : BinOp} {x y : ByteArray} {K : AV → Prop} (h : strK op x y K) : ∃ v, K v ∧ strK op x y (fun v' => v' = v) := by
  cases op <;> first
    | exact ⟨_, h, rfl⟩
    | exact ⟨_, h.2, h.1, rfl⟩
    | exact h.elim
theorem binK_pick {op : BinOp} {t : TypeId} {x y : AV} {K : AV → Prop} (h : binK P op t x y K) : ∃ v, K v ∧ binK P op t x y (fun v' => v' = v) := by
  unfold binK at *
  split at h
  · split at h
    · exact ⟨_, h.2, h.1, rfl⟩
    · exact ⟨_, h.2, h.1, rfl⟩
    · obtain ⟨hb, h⟩ := bif_elim h
      obtain ⟨v, h1, h2⟩ := intK_pick h
      exact ⟨v, h1, by simp only [*, cond_true]⟩
  · exact strK_pick h
  · split at h
    · split at h
      · exact ⟨_, h, by simp [*]⟩
      · exact ⟨_, h, by simp [*]⟩
      · exact h.elim
    · exact h.elim
  · cases hg : P.eqGuardType P.depth t with
    | true => rw [hg] at h; exact h.elim
    | false =>
      rw [hg] at h
      simp only [cond_false] at h ⊢
      split at h
      · split at h
        · exact ⟨_, h, by simp [*]⟩
        · exact ⟨_, h, by simp [*]⟩
        · exact h.elim
      · exact h.elim
  · exact h.elim

theorem appendK_pick {t : TypeId} {s x : AV} {K : AV → Upd → Prop} (h : appendK P nm t F s x K) : ∃ v u, K v u ∧ appendK P nm t F s x (fun v' u' => v' = v ∧ u' = u) := by
  unfold appendK at *
  split at h
  · split at h
    · obtain ⟨hb, h⟩ := bif_elim h
      split at h
      · obtain ⟨c1, c2, c3, h⟩ := h
        exact ⟨_, _, h, by simp only [*, cond_true]; exact ⟨trivial, trivial, c3, trivial, trivial⟩⟩
      · split at h
        · obtain ⟨hb2, c1, c2, c3, h⟩ := bif_elim h
          exact ⟨_, _, h, by simp only [*, cond_true]; exact ⟨trivial, trivial, c3, trivial, trivial⟩⟩
        · exact h.elim
      · exact h.elim
    · exact h.elim
  · exact h.elim

theorem exVal_named {t : TypeId} {K : AV → Prop} (h : exVal P t K) : ∃ v, K v ∧ ∀ K' : AV → Prop, K' v → exVal P t K' := by
  unfold exVal at *
  split at h
  · obtain ⟨l, h1, h2⟩ := exCells_pick h
    exact ⟨_, h1, fun K' hk => exCells_mono (fun l' e => by rw [e]; exact hk) _ _ h2⟩
  · obtain ⟨l, h1, h2⟩ := exCells_pick h
    split at h1
    · exact ⟨_, h1, fun K' hk => exCells_mono (fun l' e => by rw [e]; exact hk) _ _ h2⟩
    · exact h1.elim
theorem lookupK_pick {t : TypeId} {m k : AV} {okb : Bool} {K : AV → Prop} (h : lookupK P t F m k okb K) : ∃ v, K v ∧ lookupK P t F m k okb (fun v' => v' = v) := by
  unfold lookupK at *
  split at h
  · rename_i hu
    split at h
    · rename_i hFn hkd hz
      have hbe := bif_elim h
      clear h
      obtain ⟨hb, c1, h⟩ := hbe
      obtain ⟨v, ⟨h1, h2⟩, h3⟩ := exVal_named h
      refine ⟨_, h2, ?_⟩
      simp only [hu, hFn, hkd, hz, hb, cond_true]
      exact ⟨c1, h3 _ ⟨h1, rfl⟩⟩
    · exact h.elim
  · exact h.elim
theorem mapUpdateK_pick {t : TypeId} {m k v : AV} {K : Upd → Prop} (h : mapUpdateK P t F m k v K) : ∃ u, K u ∧ mapUpdateK P t F m k v (fun u' => u' = u) := by
  unfold mapUpdateK at *
  split at h
  · split at h
    · obtain ⟨hb, c1, h⟩ := bif_elim h
      exact ⟨_, h, by simp only [*, cond_true]; exact ⟨c1, trivial⟩⟩
    · exact h.elim
  · exact h.elim

theorem brP_pick {x : Bool} {v w : Option AV} {K : AV → Upd → Prop} (h : brP x (optK v fun v => K v .none) (optK w fun v => K v .none)) :
    ∃ r u, K r u ∧ brP x (optK v fun v => v = r ∧ Upd.none = u) (optK w fun v => v = r ∧ Upd.none = u) := by
  cases x with
  | true =>
    cases v with
    | none => exact (h : False).elim
    | some v => exact ⟨_, _, (h : K v .none), ⟨rfl, rfl⟩⟩
  | false =>
    cases w with
    | none => exact (h : False).elim
    | some v => exact ⟨_, _, (h : K v .none), ⟨rfl, rfl⟩⟩

theorem opK_pick {o : Oper} {K : AV → Upd → Prop} (h : opK P o nm ρ F K) : ∃ v u, K v u ∧ opK P o nm ρ F (fun v' u' => v' = v ∧ u' = u) := by
  unfold opK at *
  split at h
  · split at h
    · exact ⟨_, _, h, by simp [*]⟩
    · exact h.elim
  · split at h
    · exact ⟨_, _, h, by simp [*]⟩
    · exact h.elim
  · split at h
    · obtain ⟨v, u, h1, h2⟩ := brP_pick h
      exact ⟨v, u, h1, by simp only [*]⟩
    · exact h.elim
  · split at h
    · exact ⟨_, _, h, by simp [*]⟩
    · exact h.elim
  · split at h
    · exact ⟨_, _, h, by simp [*]⟩
    · exact h.elim
  · split at h
    · obtain ⟨hb, h⟩ := bif_elim h
      split at h
      · exact ⟨_, _, h, by simp only [*, cond_true]; exact ⟨trivial, trivial⟩⟩
      · exact h.elim
    · exact h.elim
  · split at h
    · split at h
      · obtain ⟨hb, h⟩ := bif_elim h
        split at h
        · obtain ⟨hb2, h⟩ := bif_elim h
          exact ⟨_, _, h, by simp only [*, cond_true]; exact ⟨trivial, trivial⟩⟩
        · exact h.elim
      · exact h.elim
    · exact h.elim
  · split at h
    · obtain ⟨v, h1, h2⟩ := loadK_pick h
      exact ⟨v, _, h1, by simp only [*, and_true]⟩
    · exact h.elim
  · split at h
    · obtain ⟨v, h1, h2⟩ := storeK_pick h
      exact ⟨_, v, h1, by simp only [*, true_and]⟩
    · exact h.elim
  · split at h
    · exact ⟨_, _, h, by simp [*]⟩
    · exact ⟨_, _, h, by simp [*]⟩
    · exact ⟨_, _, h, by simp [*]⟩
    · exact ⟨_, _, h, by simp [*]⟩
    · exact h.elim
  · split at h
    · obtain ⟨v, h1, h2⟩ := binK_pick h
      exact ⟨v, _, h1, by simp only [*, and_true]⟩
    · exact h.elim
  · split at h
    · exact ⟨_, _, h, by simp [*]⟩
    · exact ⟨_, _, h, by simp [*]⟩
    · exact h.elim
  · split at h
    · exact ⟨_, _, h, by simp [*]⟩
    · exact ⟨_, _, h, by simp [*]⟩
    · exact h.elim
  · split at h
    · exact ⟨_, _, h, by simp [*]⟩
    · exact h.elim
  · split at h
    · split at h
      · obtain ⟨c0, c1, c2, c3, c4, h⟩ := h
        exact ⟨_, _, h, by simp [*]⟩
      · exact h.elim
    · exact h.elim
  · split at h
    · split at h
      · exact h.elim
      · exact h.elim
      · rename_i x1 x2 x3 x4
        obtain ⟨v, h1, h2⟩ := sliceK_pick h
        refine ⟨v, .none, h1, ?_⟩
        simp only [*]
        simpa using h2
    · exact h.elim
  · split at h
    · split at h
      · split at h
        · exact ⟨_, _, h, by simp [*]⟩
        · exact ⟨_, _, h, by simp [*]⟩
        · obtain ⟨hb, h⟩ := bif_elim h
          exact ⟨_, _, h, by simp [*]⟩
        · exact h.elim
      · exact h.elim
    · exact h.elim
  · split at h
    · split at h
      · obtain ⟨hb, h⟩ := bif_elim h
        split at h
        · exact ⟨_, _, h, by simp [*]⟩
        · exact h.elim
      · exact h.elim
    · exact h.elim
  · split at h
    · obtain ⟨v, h1, h2⟩ := indexAddrK_pick h
      exact ⟨v, _, h1, by simp only [*, and_true]⟩
    · exact h.elim
  · split at h
    · obtain ⟨h0, c, hc, h⟩ := h
      exact ⟨_, _, h, by simp [*]⟩
    · exact h.elim
  · split at h
    · split at h
      · exact ⟨_, _, h, by simp [*]⟩
      · exact h.elim
    · exact h.elim
  · split at h
    · exact ⟨_, _, h, by simp [*]⟩
    · exact h.elim
  · split at h
    · obtain ⟨v, h1, h2⟩ := lookupK_pick h
      exact ⟨v, _, h1, by simp only [*, and_true]⟩
    · exact h.elim
  · split at h
    · obtain ⟨v, h1, h2⟩ := mapUpdateK_pick h
      exact ⟨_, v, h1, by simp only [*, true_and]⟩
    · exact h.elim
  · split at h
    · split at h
      · split at h
        · obtain ⟨v, h1, h2⟩ := lenK_pick h
          exact ⟨v, _, h1, by simp only [*, and_true]⟩
        · exact h.elim
      · exact h.elim
    · split at h
      · obtain ⟨hb, h⟩ := bif_elim h
        split at h
        · obtain ⟨v, u, h1, h2⟩ := appendK_pick h
          exact ⟨v, u, h1, by simp only [*, cond_true]⟩
        · exact h.elim
      · exact h.elim
    · split at h
      · split at h
        · exact ⟨_, _, h, by simp [*]⟩
        · exact h.elim
      · exact h.elim
    · split at h
      · split at h
        · exact ⟨_, _, h, by simp [*]⟩
        · exact h.elim
      · exact h.elim
    · exact h.elim
  · exact h.elim
end
end Go.AM
