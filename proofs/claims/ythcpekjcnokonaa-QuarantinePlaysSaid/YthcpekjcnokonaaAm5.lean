/- Each operation's formula is sound: numbers, tests, literals, loads, stores, addresses. -/
import Derived.Test.YthcpekjcnokonaaAm4
namespace Go.AM

structure Sit (w : World) (β : Beta) (ok : Nat → Prop) (σ : Heap) (nm : Nat) (a : Act) (ρ : Env) (F : Nat → Option Blk) : Prop where
  hm : Mem w β ok σ
  hr : ∀ x v, ρ x = some v → ARep w β ok v (a.eval x)
  hF : ∀ n c, F n = some c → look n σ = some c
  hn : β[nm]? = some none

def ODone (P : Program) (o : Oper) (a : Act) (w : World) (β : Beta) (ok : Nat → Prop) (σ : Heap) (nm : Nat) (v : AV) (u : Upd) : Prop :=
  ∃ nx x w' β' ok', (execOp a.eval o).run P w = .ok nx w' ∧ (nx = .value x ∨ (nx = .skip ∧ x = undef)) ∧ ARep w' β' ok' v x ∧ OpOK w β ok σ nm w' β' ok' u

theorem brP_elim {x : Bool} {A B : Prop} (h : brP x A B) : (x = true ∧ A) ∨ (x = false ∧ B) := by
  cases x
  · exact .inr ⟨rfl, h⟩
  · exact .inl ⟨rfl, h⟩
theorem bif_elim {x : Bool} {A : Prop} (h : bif x then A else False) : x = true ∧ A := by
  cases x
  · exact h.elim
  · exact ⟨rfl, h⟩
theorem beq_nat {a b : Nat} (h : Nat.beq a b = true) : a = b := Nat.eq_of_beq_eq_true h
theorem ble_nat {a b : Nat} (h : Nat.ble a b = true) : a ≤ b := Nat.le_of_ble_eq_true h

theorem toList_inj {x y : ByteArray} (h : x.toList = y.toList) : x = y := by
  rw [ByteArray.toList_eq, ByteArray.toList_eq] at h
  obtain ⟨⟨a⟩⟩ := x
  obtain ⟨⟨b⟩⟩ := y
  simp at h
  subst h
  rfl
theorem strEq_eq (x y : ByteArray) : (x.toList == y.toList) = strEq x y := by
  unfold strEq
  rw [Bool.eq_iff_iff]
  simp only [beq_iff_eq, decide_eq_true_eq]
  exact ⟨toList_inj, fun h => by rw [h]⟩
theorem beqBytes (x y : ByteArray) : (x == y) = strEq x y := by rw [beq_toListBytes, strEq_eq]

section
variable {P : Program} {w : World} {β : Beta} {ok : Nat → Prop}

theorem rep_int {k : IntKind} {n : Int} {x : Value} (h : ARep w β ok (.i k n) x) : x = .int k n := by
  cases h with
  | p h => cases h; rfl
theorem rep_bool {t : Bool} {x : Value} (h : ARep w β ok (.b t) x) : x = .bool t := by
  cases h with
  | p h => cases h; rfl
theorem rep_str {t : ByteArray} {x : Value} (h : ARep w β ok (.s t) x) : x = .string t := by
  cases h with
  | p h => cases h; rfl
theorem rep_nil {x : Value} (h : ARep w β ok .nil x) : x = .slice none 0 0 := by
  cases h with
  | p h => cases h; rfl
theorem rep_sle {x : Value} (h : ARep w β ok .sle x) : ∃ A c, x = .slice (some A) 0 c := by
  cases h with
  | p h => cases h; exact ⟨_, _, rfl⟩
theorem rep_sl {xs : List (List AV)} {x : Value} (h : ARep w β ok (.sl xs) x) : ∃ A c, x = .slice A xs.length c ∧ xs.length ≤ c ∧ PRep w ok (.sl xs) (.slice A xs.length c) := by
  cases h with
  | p h => cases h with | sl sz g hc hnil hw had h1 hr => exact ⟨_, _, rfl, hc, .sl sz g hc hnil hw had h1 hr⟩

def RepL (w : World) (β : Beta) (ok : Nat → Prop) (cs : List AV) (V : Array Value) : Prop :=
  cs.length = V.size ∧ ∀ (j : Nat) (a : AV) (v : Value), cs[j]? = some a → V[j]? = some v → ARep w β ok a v
def One (V : Array Value) : Prop := ∀ (j : Nat) (v : Value), V[j]? = some v → v.oneCell' = true

theorem rep_ag {cs : List AV} {x : Value} (h : ARep w β ok (.ag cs) x) : ∃ V, x = .agg V ∧ RepL w β ok cs V ∧ One V := by
  cases h with
  | p h => cases h with | ag l h1 r => exact ⟨_, rfl, ⟨l, fun j a v x y => .p (r j a v x y)⟩, h1⟩
  | ag l h1 r => exact ⟨_, rfl, ⟨l, r⟩, h1⟩
theorem rep_tup {cs : List AV} {x : Value} (h : ARep w β ok (.tup cs) x) : ∃ V, x = .tuple V ∧ RepL w β ok cs V := by
  cases h with
  | p h => cases h
  | tup l r => exact ⟨_, rfl, l, r⟩

theorem RepL.extract {cs : List AV} {V : Array Value} (h : RepL w β ok cs V) (off sz : Nat) (hl : off + sz ≤ cs.length) : RepL w β ok ((cs.drop off).take sz) (V.extract off (off + sz)) := by
  have h1 := h.1
  refine ⟨by simp; omega, fun j a v ha hv => ?_⟩
  rw [List.getElem?_take] at ha
  split at ha
  · rename_i hj
    rw [List.getElem?_drop] at ha
    rw [Array.getElem?_extract] at hv
    split at hv
    · exact h.2 _ _ _ ha hv
    · simp at hv
  · simp at ha

/-! ### Tests between values of a type -/
def mkv (P : Program) (t : TypeId) (V : Array Value) : Value := if aggT P t = some true then .agg V else (V[0]?).getD undef

theorem run_part {cs : List AV} {V : Array Value} (h : RepL w β ok cs V) {t : TypeId} {off : Nat} {ps : List AV} (hp : partAV P t cs off = some ps) (h1 : aggT P t ≠ some true → ps.length = 1) (hu : (P.underlying t).isSome) :
    (part t V off).run P w = .ok (mkv P t (V.extract off (off + ps.length))) w ∧ RepL w β ok ps (V.extract off (off + ps.length)) := by
  unfold partAV at hp
  split at hp
  · rename_i sz hsz
    cases hb : Nat.ble (off + sz) cs.length with
    | false => simp [hb] at hp
    | true =>
      simp [hb] at hp
      have hle := ble_nat hb
      have hlen : ps.length = sz := by rw [← hp]; simp; omega
      have hrep := h.extract off sz hle
      rw [hp] at hrep
      rw [hlen]
      refine ⟨?_, hrep⟩
      obtain ⟨d, hd⟩ := Option.isSome_iff_exists.1 hu
      have hag : ∃ ag, aggT P t = some ag := by unfold aggT; rw [hd]; exact ⟨_, rfl⟩
      obtain ⟨ag, hag⟩ := hag
      unfold part mkv
      simp only [Sem.run_bind, run_isAgg w hag, Result.andThen_ok]
      cases ag with
      | true => simp [run_sizeOf w hsz, hag]
      | false =>
        have h1' := h1 (by rw [hag]; simp)
        have hl := h.1
        have hlt : off < V.size := by omega
        have hs : sz = 1 := by omega
        subst hs
        have e0 : (V.extract off (off + 1))[0]? = some V[off] := by
          rw [Array.getElem?_extract, if_pos (by omega)]
          simp [hlt]
        simp [hag, hlt, e0]
  · simp at hp

theorem RepL.single {a : AV} {V : Array Value} (h : RepL w β ok [a] V) : ∃ v, V = #[v] ∧ ARep w β ok a v := by
  obtain ⟨hl, hr⟩ := h
  obtain ⟨l⟩ := V
  match l, hl, hr with
  | [v], _, hr => exact ⟨v, rfl, hr 0 a v rfl rfl⟩
theorem mkv_one {t : TypeId} {v : Value} (h : aggT P t ≠ some true) : mkv P t #[v] = v := by simp [mkv, h]

theorem eqAV_run : ∀ (n d : Nat) (t : TypeId) (xs ys : List AV) (r : Bool) (X Y : Array Value), n ≤ d → eqAV P n t xs ys = some r → RepL w β ok xs X → RepL w β ok ys Y →
    (Op.equalIn d t (mkv P t X) (mkv P t Y)).run P w = .ok r w ∧ (P.underlying t).isSome ∧ (aggT P t ≠ some true → xs.length = 1 ∧ ys.length = 1)
  | 0, _, _, _, _, _, _, _, _, h, _, _ => by simp [eqAV] at h
  | n + 1, 0, _, _, _, _, _, _, hd, _, _, _ => by omega
  | n + 1, d + 1, t, xs, ys, r, X, Y, hd, h, hX, hY => by
    unfold eqAV at h
    split at h
    · rename_i k0 hu
      split at h
      · rename_i k a k' b
        cases hk : decide (k = k') with
        | false => rw [hk] at h; simp at h
        | true =>
          rw [hk] at h
          simp only [cond_true, Option.some.injEq] at h
          have hk' := of_decide_eq_true hk
          subst hk'
          have e1 : X = #[.int k a] := by
            obtain ⟨v, rfl, hv⟩ := hX.single
            rw [rep_int hv]
          have e2 : Y = #[.int k b] := by
            obtain ⟨v, rfl, hv⟩ := hY.single
            rw [rep_int hv]
          subst e1
          subst e2
          refine ⟨?_, by simp [hu], fun _ => ⟨rfl, rfl⟩⟩
          have hag : aggT P t ≠ some true := by simp [aggT, hu]
          rw [mkv_one hag, mkv_one hag, run_equalIn_int w d t k k0 a b hu, ← h]
          congr 1
      · simp at h
    · rename_i hu
      split at h
      · rename_i a b
        simp only [Option.some.injEq] at h
        have e1 : X = #[.string a] := by
          obtain ⟨v, rfl, hv⟩ := hX.single
          rw [rep_str hv]
        have e2 : Y = #[.string b] := by
          obtain ⟨v, rfl, hv⟩ := hY.single
          rw [rep_str hv]
        subst e1
        subst e2
        refine ⟨?_, by simp [hu], fun _ => ⟨rfl, rfl⟩⟩
        have hag : aggT P t ≠ some true := by simp [aggT, hu]
        rw [mkv_one hag, mkv_one hag, run_equalIn_string w d t a b hu, ← h, strEq_eq]
      · simp at h
    · rename_i hu
      split at h
      · rename_i a b
        simp only [Option.some.injEq] at h
        have e1 : X = #[.bool a] := by
          obtain ⟨v, rfl, hv⟩ := hX.single
          rw [rep_bool hv]
        have e2 : Y = #[.bool b] := by
          obtain ⟨v, rfl, hv⟩ := hY.single
          rw [rep_bool hv]
        subst e1
        subst e2
        refine ⟨?_, by simp [hu], fun _ => ⟨rfl, rfl⟩⟩
        have hag : aggT P t ≠ some true := by simp [aggT, hu]
        rw [mkv_one hag, mkv_one hag, run_equalIn_bool' w d t a b hu, ← h]
      · simp at h
    · rename_i fs hu
      cases hst : P.stoodInHeld t with
      | true => rw [hst] at h; simp at h
      | false =>
        rw [hst] at h
        simp only [cond_false] at h
        have hag : aggT P t = some true := by simp [aggT, hu]
        refine ⟨?_, by simp [hu], fun hc => absurd hag hc⟩
        simp only [mkv, hag, if_true]
        have hfo : P.fieldsOf t = fs := by simp [Program.fieldsOf, hu]
        rw [run_equalIn_struct w d t X Y (by rw [hfo]; exact hu) hst, hfo]
        have key : ∀ (l : List Field) (r : Bool), eqFieldsAV (eqAV P n) P xs ys l = some r → (Op.eqFields d X Y l).run P w = .ok r w := by
          intro l
          induction l with
          | nil =>
            intro r h
            simp [eqFieldsAV] at h
            subst h
            simp [Op.eqFields]
          | cons f l ih =>
            intro r h
            unfold eqFieldsAV at h
            unfold Op.eqFields
            by_cases hf : f.name ≠ "_"
            · rw [decide_eq_true hf] at h
              simp only [cond_true] at h
              rw [if_pos hf]
              split at h
              · rename_i p1 p2 hp1 hp2
                split at h
                · rename_i q1 q2 hq1 hq2
                  simp only [Option.some.injEq] at h
                  have pre1 : ∀ (X' Y' : Array Value), RepL w β ok p1 X' → RepL w β ok p2 Y' → _ := fun X' Y' => eqAV_run n d f.type p1 p2 q1 X' Y' (by omega) hq1
                  have hex : ∀ (ps : List AV) (V : Array Value) (cs : List AV), RepL w β ok cs V → partAV P f.type cs f.offset = some ps → RepL w β ok ps (V.extract f.offset (f.offset + ps.length)) := by
                    intro ps V cs hR hp
                    unfold partAV at hp
                    split at hp
                    · rename_i sz hsz
                      cases hb : Nat.ble (f.offset + sz) cs.length with
                      | false => simp [hb] at hp
                      | true =>
                        simp [hb] at hp
                        have hle := ble_nat hb
                        have hlen : ps.length = sz := by rw [← hp]; simp; omega
                        rw [hlen, ← hp]
                        exact hR.extract _ _ hle
                    · simp at hp
                  have hx := hex p1 X xs hX hp1
                  have hy := hex p2 Y ys hY hp2
                  obtain ⟨g1, g2, g3⟩ := pre1 _ _ hx hy
                  have r1 := (run_part hX hp1 (fun hh => (g3 hh).1) g2).1
                  have r2 := (run_part hY hp2 (fun hh => (g3 hh).2) g2).1
                  simp only [Sem.run_bind, r1, r2, g1, Result.andThen_ok, Sem.run_ite]
                  cases q1 with
                  | false => simp at h; subst h; simp
                  | true =>
                    simp at h
                    subst h
                    simp [ih _ hq2]
                · simp at h
              · simp at h
            · rw [decide_eq_false hf] at h
              simp only [cond_false] at h
              rw [if_neg hf]
              exact ih r h
        exact key fs.toList r h
    · simp at h
end
end Go.AM
