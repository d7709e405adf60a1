/- Quarantine: slices.Clone, slices.Insert and slices.Delete on entries. -/
import Derived.Test.YthcpekjcnokonaaQF
import Derived.Lib.Overlaps
set_option maxRecDepth 100000
set_option linter.unusedVariables false
set_option linter.unusedSimpArgs false
namespace Go.AM.Q
open Go.Proofs
/-! ### Clone -/
theorem clone_calls (l : List Held) (hl : l.length ≤ 4294967296) : ACalls Try.prog 50 [.sl (rowH l)] [] (.own 0) [(0, .row 41 8 (rowH l))] := by
  refine acalls_runsE (fn := Try.f50) (by kernel_rfl) (by kernel_rfl) ?_
  cases l with
  | nil =>
    refine Runs.sl0 (j := 0) rfl ?_ ?_
    · refine Runs.nilres (e := 41) (sz := 8) (runs_evB (vClN_eq _) (by kernel_rfl) noK_runs ?_)
      exact ⟨[4], rfl, rfl⟩
    · refine runs_evB (vClE_eq _) (by kernel_rfl) noK_runs ?_
      exact ⟨by omega, by omega, fun y hy => (nomatch hy), [5], rfl, rfl⟩
  | cons h r =>
    refine runs_evB (vClC_eq h.cells (rowH r) _) (by kernel_rfl) noK_runs ?_
    have : (h.cells :: rowH r).length = r.length + 1 := by simp [rowH_len]
    simp only [List.length_cons] at hl
    refine ⟨by rw [this]; omega, by rw [this]; omega, fun y hy => rowH_all (h :: r) y hy, ?_⟩
    exact ⟨[5], rfl, rfl⟩

/-! ### Insert -/
def insL (xs : List (List AV)) (i : Nat) (y : List AV) : List (List AV) := xs.take i ++ [y] ++ xs.drop i
def insR (xs : List (List AV)) (i : Nat) (y : List AV) : AV → St → Prop := fgtR (dropR [0, 1] (RetE 2 (.own 2) [(2, .row 41 8 (insL xs i y))]))
theorem bare_ins {xs : List (List AV)} {i : Nat} {y : List AV} {v : AV} {s : St} : bareR (fun v σ n => insR xs i y v ⟨[], σ, n, 0⟩) v s → insR xs i y v s := by
  intro h
  unfold bareR insR fgtR at h
  unfold insR fgtR
  exact h
theorem spare_len (xs : List (List AV)) (k : Nat) : (spare xs k).length = xs.length + k := by simp [spare]
theorem spare_take (xs : List (List AV)) (k i : Nat) (h : i ≤ xs.length) : (spare xs k).take i = xs.take i := by
  unfold spare
  rw [List.take_append_of_le_length h]
theorem spare_mid (xs : List (List AV)) (k i m : Nat) (h : i + m ≤ xs.length) : ((spare xs k).drop i).take m = (xs.drop i).take m := by
  unfold spare
  rw [List.drop_append_of_le_length (by omega), List.take_append_of_le_length (by simp; omega)]
theorem noU_sub {xs ys : List (List AV)} (h : noU xs) (hs : ∀ x ∈ ys, x ∈ xs) : noU ys := fun x hx => h x (hs x hx)
abbrev insF : Nat := 49
section
variable {xs : List (List AV)} {y : List AV} {i k : Nat}
theorem runs_ins {id : Nat} {s : St} {VC : Prop} {I : Nat → St → Prop} {stop : List Nat} (e : VC = evH Try.prog TQ Try.f49 stop (cutK 2 Try.f49 insC I) id s (bareR fun v σ n => insR xs i y v ⟨[], σ, n, 0⟩))
    (hI : ∀ id s', I id s' → Runs Try.prog insF 2 (hd Try.f49 id) s' (insR xs i y)) (h : VC) : Runs Try.prog insF 2 (hd Try.f49 id) s (insR xs i y) :=
  (runs_evH (R := bareR fun v σ n => insR xs i y v ⟨[], σ, n, 0⟩) (f := insF) (kk := 2) e (by kernel_rfl) (fun todo s h => Runs.cut h (fun id s' hs => (hI id s' hs).mono fun v s hr => hr)) h).mono fun v s hr => bare_ins hr

theorem ins12 (zs : List (List AV)) : Runs Try.prog insF 2 (hd Try.f49 12) (sIn12 zs (insL xs i y) y) (insR xs i y) := by
  refine runs_ins (vIns12_eq zs _ y (fun _ _ => False) _) (fun _ _ h => h.elim) ?_
  exact ⟨[2], rfl, rfl⟩
theorem ins11 (ws : List (List AV)) (hn : i < xs.length) (h32 : xs.length ≤ 4294967296) (hw : ws.length = xs.length + 1) (ht : ws.take (i + 1) = xs.take i ++ [y]) (h8 : ∀ x ∈ xs, x.length = 8) (hu : noU xs) :
    Runs Try.prog insF 2 (hd Try.f49 11) (sIn10 xs.length i k (spare xs k) ws y) (insR xs i y) := by
  refine runs_ins (vIns11_eq xs.length i k _ ws y (fun id s => id = 12 ∧ s = sIn12 (spare xs k) (insL xs i y) y) _) (fun id s' h => by obtain ⟨rfl, rfl⟩ := h; exact ins12 _) ?_
  have hwr : IntKind.i64.wrap ((i : Int) + 1) = ((i + 1 : Nat) : Int) := by rw [wrap_id (by omega) (by omega)]; simp
  have hmin : min (xs.length - i) (ws.length - (i + 1)) = xs.length - i := by omega
  have hsp : ((spare xs k).drop i).take (xs.length - i) = xs.drop i := by
    rw [spare_mid _ _ _ _ (by omega), List.take_of_length_le (by simp)]
  simp only [vIns11, hwr, Int.toNat_natCast, Nat.zero_add, Nat.sub_zero, hmin, hsp]
  and_intros
  all_goals try (first | trivial | omega)
  · exact noU_sub hu fun x hx => List.mem_of_mem_drop hx
  · exact fun x hx => h8 x (List.mem_of_mem_drop hx)
  · have : splice ws (i + 1) (xs.drop i) = insL xs i y := by
      have hd : ws.drop (i + 1 + (xs.drop i).length) = [] := List.drop_eq_nil_of_le (by rw [List.length_drop]; omega)
      unfold splice insL
      rw [ht, hd, List.append_nil]
    rw [this]
    rfl
theorem ins10 (ws : List (List AV)) (hn : i < xs.length) (h32 : xs.length ≤ 4294967296) (hw : ws.length = xs.length + 1) (ht : ws.take i = xs.take i) (h8 : ∀ x ∈ xs, x.length = 8) (hu : noU xs) (hy : y.length = 8) :
    Runs Try.prog insF 2 (hd Try.f49 10) (sIn10 xs.length i k (spare xs k) ws y) (insR xs i y) := by
  refine runs_ins (vIns10_eq xs.length i k _ ws y (fun id s => id = 11 ∧ s = sIn10 xs.length i k (spare xs k) (splice ws i [y]) y) _) (fun id s' h => by
    obtain ⟨rfl, rfl⟩ := h
    have h1 := length_splice' ws i [y] (by simp; omega)
    refine ins11 _ hn h32 (by omega) ?_ h8 hu
    unfold splice
    rw [ht, List.take_append_of_le_length (by simp; omega), List.take_of_length_le (by simp; omega)]) ?_
  have h1 : [y].take (ws.length - i) = [y] := List.take_of_length_le (by simp; omega)
  simp only [vIns10, Int.toNat_natCast, Nat.zero_add, Nat.sub_zero, h1]
  and_intros
  all_goals try (first | trivial | omega)
  · intro x hx
    cases hx with
    | head => exact hy
    | tail _ h => cases h
theorem ins9 (hn : i < xs.length) (h32 : xs.length ≤ 4294967296) (hk : k = 0) (h8 : ∀ x ∈ xs, x.length = 8) (hu : noU xs) (hy : y.length = 8) :
    Runs Try.prog insF 2 (hd Try.f49 9) (sIn9 xs.length i k (spare xs k) y) (insR xs i y) := by
  subst hk
  refine runs_ins (vIns9_eq xs.length i 0 _ y (fun id s => id = 10 ∧ ∃ ws : List (List AV), s = sIn10 xs.length i 0 (spare xs 0) ws y ∧ ws.length = xs.length + 1 ∧ ws.take i = xs.take i) _) (fun id s' h => by
    obtain ⟨rfl, ws, rfl, h1, h2⟩ := h
    exact ins10 ws hn h32 h1 h2 h8 hu hy) ?_
  have hwr : IntKind.i64.wrap (IntKind.i64.wrap ((xs.length : Int) + 1) - (i : Int)) = ((xs.length + 1 - i : Nat) : Int) := by
    rw [wrap_id (n := (xs.length : Int) + 1) (by omega) (by omega), wrap_id (by omega) (by omega)]; omega
  simp only [vIns9, brP_iff, hwr, Int.toNat_natCast, Nat.zero_add, Nat.sub_zero, List.length_replicate, List.drop_zero, spare_take xs 0 i (by omega)]
  and_intros
  all_goals try (first | trivial | omega)
  · intro x hx
    have := List.eq_of_mem_replicate (show x ∈ List.replicate _ _ from hx)
    subst this
    rfl
  · show (xs.length + 1 - i) * 88 ≤ 140737488355328
    omega
  · intro h
    simp at h
    omega
  · intro _
    and_intros
    all_goals try (first | trivial | omega)
    · exact noU_sub hu fun x hx => List.mem_of_mem_take hx
    · refine ⟨_, rfl, by simp; omega, ?_⟩
      rw [List.take_append_of_le_length (by simp; omega), List.take_of_length_le (by simp; omega)]
theorem ins17 (zs : List (List AV)) (hn : i < xs.length) (hz : zs.length = xs.length + k) (hk : 1 ≤ k) (ht : zs.take (xs.length + 1) = insL xs i y) (hu : noU xs) (hyu : ∀ c ∈ y, c ≠ .u) :
    Runs Try.prog insF 2 (hd Try.f49 17) (sIn17 (xs.length + 1) (xs.length + k) zs y) (insR xs i y) := by
  refine runs_ins (vIns17_eq _ _ zs y (fun _ _ => False) _) (fun _ _ h => h.elim) ?_
  refine ⟨by omega, hz.symm, ?_, [4], ?_⟩
  · rw [ht]
    intro x hx
    unfold insL at hx
    rcases List.mem_append.1 hx with h | h
    · rcases List.mem_append.1 h with h | h
      · exact hu x (List.mem_of_mem_take h)
      · simp at h; subst h; exact hyu
    · exact hu x (List.mem_of_mem_drop h)
  · rw [ht]
    exact ⟨rfl, rfl⟩
theorem ins16 (zs : List (List AV)) (hn : i < xs.length) (hz : zs.length = xs.length + k) (hk : 1 ≤ k) (ht : zs.take i = xs.take i) (hdr : (zs.drop (i + 1)).take (xs.length - i) = xs.drop i) (hu : noU xs) (hy : y.length = 8) (hyu : ∀ c ∈ y, c ≠ .u) :
    Runs Try.prog insF 2 (hd Try.f49 16) (sIn14 (xs.length + 1) i (xs.length + k) zs y) (insR xs i y) := by
  refine runs_ins (vIns16_eq _ i _ zs y (fun id s => id = 17 ∧ s = sIn17 (xs.length + 1) (xs.length + k) (splice zs i [y]) y) _) (fun id s' h => by
    obtain ⟨rfl, rfl⟩ := h
    have h1 := length_splice' zs i [y] (by simp; omega)
    refine ins17 _ hn (by omega) hk ?_ hu hyu
    unfold splice insL
    rw [ht, List.take_append, List.take_of_length_le (by simp; omega), List.length_append, List.length_take, List.length_singleton, Nat.min_eq_left (by omega), show xs.length + 1 - (i + 1) = xs.length - i by omega, hdr]) ?_
  have h1 : [y].take (xs.length + 1 - i) = [y] := List.take_of_length_le (by simp; omega)
  simp only [vIns16, Int.toNat_natCast, Nat.zero_add, Nat.sub_zero, h1]
  and_intros
  all_goals try (first | trivial | omega)
  · intro x hx
    cases hx with
    | head => exact hy
    | tail _ h => cases h
theorem ins15 (hn : i < xs.length) (h32 : xs.length ≤ 4294967296) (hk : 1 ≤ k) (h8 : ∀ x ∈ xs, x.length = 8) (hu : noU xs) (hy : y.length = 8) (hyu : ∀ c ∈ y, c ≠ .u) :
    Runs Try.prog insF 2 (hd Try.f49 15) (sIn14 (xs.length + 1) i (xs.length + k) (spare xs k) y) (insR xs i y) := by
  refine runs_ins (vIns15_eq _ i _ _ y (fun id s => id = 16 ∧ s = sIn14 (xs.length + 1) i (xs.length + k) (splice (spare xs k) (i + 1) (xs.drop i)) y) _) (fun id s' h => by
    obtain ⟨rfl, rfl⟩ := h
    have hsl := spare_len xs k
    have h1 := length_splice' (spare xs k) (i + 1) (xs.drop i) (by simp [hsl]; omega)
    refine ins16 _ hn (by omega) hk ?_ ?_ hu hy hyu
    · unfold splice
      rw [List.append_assoc, List.take_append_of_le_length (by simp [hsl]; omega), List.take_take, Nat.min_eq_left (by omega), spare_take xs k i (by omega)]
    · unfold splice
      have h2 : ((spare xs k).take (i + 1)).length = i + 1 := by simp [hsl]; omega
      rw [List.append_assoc, List.drop_append_of_le_length (by omega), List.drop_eq_nil_of_le (by omega), List.nil_append, List.take_append_of_le_length (by simp), List.take_of_length_le (by simp)]) ?_
  have hwr : IntKind.i64.wrap ((i : Int) + 1) = ((i + 1 : Nat) : Int) := by rw [wrap_id (by omega) (by omega)]; simp
  have hmin : min (xs.length + 1 - i) (xs.length + 1 - (i + 1)) = xs.length - i := by omega
  have hsp : ((spare xs k).drop i).take (xs.length - i) = xs.drop i := by
    rw [spare_mid _ _ _ _ (by omega), List.take_of_length_le (by simp)]
  simp only [vIns15, hwr, Int.toNat_natCast, Nat.zero_add, Nat.sub_zero, hmin, hsp]
  and_intros
  all_goals try (first | trivial | omega)
  · exact noU_sub hu fun x hx => List.mem_of_mem_drop hx
  · exact fun x hx => h8 x (List.mem_of_mem_drop hx)
/-- Two rows in two blocks do not overlap. -/
theorem overlaps_calls {i a b : Nat} {zs ws : List (List AV)} (hz : 0 < zs.length) (hb : 0 < b) (F : Nat → Option Blk) (h1 : F 1 = some (.row 41 8 ws)) (h0 : F 0 = some (.full 41 8 zs)) (hw : 0 < ws.length) :
    NCalls Try.prog 72 [.own 1, .fv 0 8 i a b] F (.b false) := by
  intro w β ok σ vs hargs hm hF
  have hsz : vs.size = 2 := hargs.1.symm
  obtain ⟨v0, v1, rfl⟩ : ∃ v0 v1, vs = #[v0, v1] := by
    match vs, hsz with
    | ⟨[a, b]⟩, _ => exact ⟨a, b, rfl⟩
  have r0 := hargs.2 0 _ v0 rfl rfl
  have r1 := hargs.2 1 _ v1 rfl rfl
  obtain ⟨A, g, l, c', rfl, hbt, f1, f2, f3⟩ := rep_fv r1
  obtain ⟨rfl, hmx, cur, hh, hcs, hr⟩ := blk_full (hm.blks 0 _ (hF 0 _ h0)) hbt
  have hl1 := hF 1 _ h1
  have hl0 := hF 0 _ h0
  cases hm.blks 1 _ hl1 with
  | @row _ _ _ v cells hb0 ho hrr =>
    cases r0 with
    | p hp => cases hp
    | @own _ A1 l1 c1 hp =>
      rw [hp] at hb0
      simp only [Option.some.injEq] at hb0
      subst hb0
      rcases ho.2 with ⟨e1, e2⟩ | ⟨g1, cap1, cur1, e1, _, hh1, hnc1, _, hcs1, _⟩
      · omega
      · simp only [Value.slice.injEq] at e1
        obtain ⟨rfl, _, rfl⟩ := e1
        have hne : g1 ≠ g := fun e => hm.inj 1 0 _ _ g1 (by omega) hl1 hl0 (by rw [blockOf_some hp]; rfl) (by rw [blockOf_some hbt, e]; rfl)
        refine ⟨.bool false, ?_, .p (.b false)⟩
        rw [run_callFunc_extern (f := 72) (fn := Try.f72) (by kernel_rfl) (by kernel_rfl) (by kernel_rfl) (by kernel_rfl) (e := Extern.SlicesOverlaps.overlaps #[22, 22] #[4]) (by kernel_rfl)]
        have hu : Try.prog.underlying 22 = some (.slice 41) := by kernel_rfl
        have hs8 : ∀ w, (Go.sizeOf 41).run Try.prog w = .ok 8 w := fun w => run_sizeOf w (show sizeT Try.prog 41 = some 8 by kernel_rfl)
        have hcur : cur.size ≠ 0 := by rw [hcs]; omega
        have sh1 : w.shape? g1 = some (41, cur1.size) := by simp [World.shape?, hh1]
        have sh0 : w.shape? g = some (41, cur.size) := by simp [World.shape?, hh]
        have := f3 hb
        subst this
        rw [Lib.run_overlaps_apart w _ _ _ hu 8 hs8 ⟨g1, 0, none⟩ ⟨g, i * 8, none⟩ _ _ _ _ hne _ _ _ _ sh1 sh0 hcur (by simp [World.frozen?, hh1]) (by simp [World.frozen?, hh1])]
        rfl
theorem ins14 (hn : i < xs.length) (h32 : xs.length ≤ 4294967296) (hk : 1 ≤ k) (h8 : ∀ x ∈ xs, x.length = 8) (hu : noU xs) (hy : y.length = 8) (hyu : ∀ c ∈ y, c ≠ .u) :
    Runs Try.prog insF 2 (hd Try.f49 14) (sIn14 (xs.length + 1) i (xs.length + k) (spare xs k) y) (insR xs i y) := by
  refine runs_ins (vIns14_eq _ i _ _ y (fun id s => id = 15 ∧ s = sIn14 (xs.length + 1) i (xs.length + k) (spare xs k) y) _) (fun id s' h => by
    obtain ⟨rfl, rfl⟩ := h
    exact ins15 hn h32 hk h8 hu hy hyu) ?_
  have hwr : IntKind.i64.wrap ((i : Int) + 1) = ((i + 1 : Nat) : Int) := by rw [wrap_id (by omega) (by omega)]; simp
  simp only [vIns14, brP_iff, hwr, Int.toNat_natCast, Nat.zero_add, Nat.sub_zero]
  and_intros
  all_goals try (first | trivial | omega)
  exact ⟨false, overlaps_calls (by rw [spare_len]; omega) (by omega) _ rfl rfl (by simp), fun _ => ⟨by trivial, by trivial, rfl⟩, fun h => by simp at h⟩
theorem ins13 (hn : i < xs.length) (h32 : xs.length ≤ 4294967296) (hk : 1 ≤ k) (h8 : ∀ x ∈ xs, x.length = 8) (hu : noU xs) (hy : y.length = 8) (hyu : ∀ c ∈ y, c ≠ .u) :
    Runs Try.prog insF 2 (hd Try.f49 13) (sIn9 xs.length i k (spare xs k) y) (insR xs i y) := by
  refine runs_ins (vIns13_eq _ i k _ y (fun id s => id = 14 ∧ s = sIn14 (xs.length + 1) i (xs.length + k) (spare xs k) y) _) (fun id s' h => by
    obtain ⟨rfl, rfl⟩ := h
    exact ins14 hn h32 hk h8 hu hy hyu) ?_
  have hwr : IntKind.i64.wrap ((xs.length : Int) + 1) = ((xs.length + 1 : Nat) : Int) := by rw [wrap_id (by omega) (by omega)]; simp
  simp only [vIns13, hwr, Int.toNat_natCast, Nat.zero_add, Nat.sub_zero]
  and_intros
  all_goals try (first | trivial | omega)
theorem insert_calls (hi : i ≤ xs.length) (h32 : xs.length ≤ 4294967296) (h8 : ∀ x ∈ xs, x.length = 8) (hu : noU xs) (hy : y.length = 8) (hyu : ∀ c ∈ y, c ≠ .u) :
    ACalls Try.prog insF [.own 0, .i .i64 i, .own 1] [(0, .row 41 8 xs), (1, .row 41 8 [y])] (.own 2) [(2, .row 41 8 (insL xs i y))] := by
  refine acalls_runsE (fn := Try.f49) (by kernel_rfl) (by kernel_rfl) ?_
  by_cases hn : i < xs.length
  · refine Runs.dropres (ns := [0, 1]) (Runs.fgtres ?_)
    refine Runs.reveal (j := 0) (n := 0) rfl rfl (by omega) (fun k hk => ?_)
    refine (runs_evB (R := bareR fun v σ n => insR xs i y v ⟨[], σ, n, 0⟩) (vIns0_eq xs y i k (fun id s => (id = 9 ∧ s = sIn9 xs.length i k (spare xs k) y ∧ k = 0) ∨ (id = 13 ∧ s = sIn9 xs.length i k (spare xs k) y ∧ 1 ≤ k)) _) (by kernel_rfl) (fun todo s h => Runs.cut h (fun id s' hs => ?_)) ?_).mono fun v s hr => ?_
    · rcases hs with ⟨rfl, rfl, h0⟩ | ⟨rfl, rfl, h1⟩
      · exact (ins9 hn h32 h0 h8 hu hy).mono fun v s hr => hr
      · exact (ins13 hn h32 h1 h8 hu hy hyu).mono fun v s hr => hr
    · have hwr : IntKind.i64.wrap ((xs.length : Int) + 1) = ((xs.length + 1 : Nat) : Int) := by rw [wrap_id (by omega) (by omega)]; simp
      simp only [vIns0, brP_iff, hwr, Int.toNat_natCast]
      and_intros
      all_goals try (first | trivial | omega)
      · intro h; simp at h; omega
      · intro _
        and_intros
        · intro h
          simp at h
          exact ⟨by trivial, .inl ⟨by trivial, rfl, by omega⟩⟩
        · intro h
          simp at h
          exact ⟨by trivial, .inr ⟨by trivial, rfl, by omega⟩⟩
    · exact bare_ins hr
  · have hin : i = xs.length := by omega
    subst hin
    refine Runs.dropres (ns := [0, 1]) (runs_evB (R := bareR fun v σ n => dropR [0, 1] (RetE 2 (.own 2) [(2, .row 41 8 (insL xs xs.length y))]) v ⟨[], σ, n, 0⟩) (vInsE_eq xs y xs.length (fun _ _ => False) _) (by kernel_rfl) (fun todo s h => h.elim) ?_ |>.mono fun v s hr => hr)
    simp only [vInsE, brP_iff, Int.toNat_natCast]
    and_intros
    all_goals try (first | trivial | omega)
    · intro _
      and_intros
      all_goals try (first | trivial | omega)
      · intro x hx
        cases hx with
        | head => exact hy
        | tail _ h => cases h
      · have : insL xs xs.length y = xs ++ [y] := by simp [insL]
        rw [this]
        exact ⟨[19], rfl, rfl⟩

/-! ### Delete -/
def delL (xs : List (List AV)) (i j : Nat) : List (List AV) := xs.take i ++ xs.drop j
def delR (xs : List (List AV)) (i j : Nat) : AV → St → Prop := fgtR (RetE 1 (.own 1) [(1, .row 41 8 (delL xs i j))])
theorem bare_del {j : Nat} {v : AV} {s : St} : bareR (fun v σ n => delR xs i j v ⟨[], σ, n, 0⟩) v s → delR xs i j v s := by
  intro h
  unfold bareR delR fgtR at h
  unfold delR fgtR
  exact h
abbrev delF : Nat := 68
theorem del6 {j : Nat} (zs : List (List AV)) (hij : i < j) (hj : j ≤ xs.length) (hz : zs.length = xs.length + k) (ht : zs.take (i + (xs.length - j)) = delL xs i j) (hu : noU xs) :
    Runs Try.prog delF 1 (hd Try.f68 6) (sDel6 xs.length (xs.length + k) (i + (xs.length - j)) zs) (delR xs i j) := by
  refine (runs_evH (R := bareR fun v σ n => delR xs i j v ⟨[], σ, n, 0⟩) (f := delF) (kk := 1) (vDel6_eq xs.length _ _ zs (fun _ _ => False) _) (by kernel_rfl) noK_runs ?_).mono fun v s hr => bare_del hr
  simp only [vDel6, Int.toNat_natCast, Nat.zero_add, Nat.sub_zero]
  refine ⟨by omega, by omega, by omega, by omega, by omega, ?_⟩
  have hlen : i + (xs.length - j) ≤ zs.length := by omega
  have hsl : ∀ z : List AV, (splice zs (i + (xs.length - j)) (List.replicate (xs.length - (i + (xs.length - j))) z)).length = zs.length := fun z => length_splice' _ _ _ (by simp; omega)
  have hst : ∀ z : List AV, (splice zs (i + (xs.length - j)) (List.replicate (xs.length - (i + (xs.length - j))) z)).take (i + (xs.length - j)) = delL xs i j := by
    intro z
    unfold splice
    rw [List.append_assoc, List.take_append_of_le_length (by simp; omega), List.take_take, Nat.min_self, ht]
  refine ⟨by omega, by rw [hsl, hz], ?_, [9], ?_⟩
  · rw [hst]
    intro x hx
    unfold delL at hx
    rcases List.mem_append.1 hx with h | h
    · exact hu x (List.mem_of_mem_take h)
    · exact hu x (List.mem_of_mem_drop h)
  · rw [hst]
    exact ⟨rfl, rfl⟩
theorem del5 {j : Nat} (hij : i < j) (hj : j ≤ xs.length) (h32 : xs.length ≤ 4294967296) (h8 : ∀ x ∈ xs, x.length = 8) (hu : noU xs) :
    Runs Try.prog delF 1 (hd Try.f68 5) (sDel5 xs.length (xs.length + k) i j (spare xs k)) (delR xs i j) := by
  have hsp : ((spare xs k).drop j).take (xs.length - j) = xs.drop j := by
    rw [spare_mid _ _ _ _ (by omega), List.take_of_length_le (by simp)]
  refine (runs_evH (R := bareR fun v σ n => delR xs i j v ⟨[], σ, n, 0⟩) (f := delF) (kk := 1) (vDel5_eq xs.length _ i j _ (fun id s => id = 6 ∧ s = sDel6 xs.length (xs.length + k) (i + (xs.length - j)) (splice (spare xs k) i (xs.drop j))) _) (by kernel_rfl) (fun todo s h => Runs.cut h (fun id s' hs => ?_)) ?_).mono fun v s hr => bare_del hr
  · obtain ⟨rfl, rfl⟩ := hs
    have hsl := spare_len xs k
    refine (del6 _ hij hj (by rw [length_splice' _ _ _ (by simp [hsl]; omega), hsl]) ?_ hu).mono fun v s hr => hr
    unfold splice delL
    rw [spare_take xs k i (by omega), List.take_append_of_le_length (by simp; omega), List.take_of_length_le (by simp; omega)]
  · simp only [vDel5, brP_iff, Int.toNat_natCast, Nat.zero_add, Nat.sub_zero, hsp]
    have hdl : (xs.drop j).length = xs.length - j := by simp
    rw [hdl]
    and_intros
    all_goals try (first | trivial | omega)
    · exact noU_sub hu fun x hx => List.mem_of_mem_drop hx
    · exact fun x hx => h8 x (List.mem_of_mem_drop hx)
    · intro _
      exact ⟨by trivial, by trivial, by trivial, rfl⟩
    · intro h
      simp at h
      omega
theorem delete_calls {j : Nat} (hij : i < j) (hj : j ≤ xs.length) (h32 : xs.length ≤ 4294967296) (h8 : ∀ x ∈ xs, x.length = 8) (hu : noU xs) :
    ACalls Try.prog delF [.own 0, .i .i64 i, .i .i64 j] [(0, .row 41 8 xs)] (.own 1) [(1, .row 41 8 (delL xs i j))] := by
  refine acalls_runsE (fn := Try.f68) (by kernel_rfl) (by kernel_rfl) ?_
  refine Runs.fgtres (Runs.reveal (j := 0) (n := 0) rfl rfl (by omega) (fun k hk => ?_))
  refine (runs_evB (R := bareR fun v σ n => delR xs i j v ⟨[], σ, n, 0⟩) (vDel0_eq xs i j k (fun id s => id = 5 ∧ s = sDel5 xs.length (xs.length + k) i j (spare xs k)) _) (by kernel_rfl) (fun todo s h => Runs.cut h (fun id s' hs => ?_)) ?_).mono fun v s hr => bare_del hr
  · obtain ⟨rfl, rfl⟩ := hs
    exact (del5 hij hj h32 h8 hu).mono fun v s hr => hr
  · simp only [vDel0, brP_iff, Int.toNat_natCast]
    and_intros
    all_goals try (first | trivial | omega)
    · intro h; simp at h; omega
    · intro _
      exact ⟨by trivial, by trivial, rfl⟩
end
end Go.AM.Q
